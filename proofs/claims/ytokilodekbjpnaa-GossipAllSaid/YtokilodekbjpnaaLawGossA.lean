/- The walk of the law GossipAll: it returns true. Conditions: the argument fits its kind. -/
import Derived.Test.YtokilodekbjpnaaIdxL
import Derived.Test.YtokilodekbjpnaaRevE
import Derived.Test.YtokilodekbjpnaaCopyK
import Derived.Deep.DeepAppendWide
namespace Go.Proofs.Ytokilodekbjpnaa
open Go.RowKit

/-- 'append(out, more...)' under the wider bound on bytes -/
theorem run_append_spreadW {P : Program} {w : World} {base size bytes : Nat} {t ty e : TypeId} (E : Elem P t e size bytes) {v : Value} {n : Nat} {xs : List Value} (hown : w.ownsRow base e size v n xs)
    {A : Option Addr} {m c B : Nat} {news : List Value} (hr : Has w B A news) (hl : news.length = m * size) (h1 : ∀ u ∈ news, u.oneCell' = true)
    (hmax : ((n + m) + (n + m) / 4 + 192) * bytes ≤ 281474976710656) (h63 : n + m ≤ maxLen) (hbase : base ≤ w.heap.size) :
    ∃ v' w', (Builtin.append_ #[t, t] ty #[v, .slice A m c]).run P w = .ok v' w' ∧ w'.ownsRow base e size v' (n + m) (xs ++ news) ∧ w.grownBy w' v.ownBlock := by
  obtain ⟨ht, ⟨i, z, hi, hz, hsize, hby, hzs⟩, hsz⟩ := E
  cases A with
  | none =>
    have hn : news = [] := by
      rcases Decidable.em (news = []) with h0 | h0
      · exact h0
      · obtain ⟨ad, h, _⟩ := hr h0
        cases h
    subst hn
    have hm : m = 0 := by
      rcases Nat.eq_zero_or_pos m with h0 | h0
      · exact h0
      · have := Nat.mul_pos h0 hsz; simp at hl; omega
    subst hm
    refine ⟨v, w, ?_, by simpa using hown, World.grownBy.refl w _⟩
    rcases hown.2 with ⟨rfl, rfl⟩ | ⟨g, cap, cur, rfl, _, _, hnc, _⟩
    · simp [Builtin.append_, run_underlying ht, sizeOf, typeInfo, hi, Builtin.lenOf, Builtin.firstCells]
    · simp [Builtin.append_, run_underlying ht, sizeOf, typeInfo, hi, Builtin.lenOf, Builtin.firstCells, hnc, storeCells]
  | some ad =>
    have hcells : ∀ j u, news[j]? = some u → w.cell? (ad.add j) = some u := by
      intro j u hu
      obtain ⟨ad', h, _, hc⟩ := hr.at hu
      injection h with h
      subst h
      exact hc
    obtain ⟨v', w', hrun, h2, h3, _⟩ := run_append_own_wide (P := P) w base t ty e i z size bytes ht hi hz hsize hby hzs hsz v n xs hown ad m c news hl hcells h1 h63 hmax hbase
    exact ⟨v', w', hrun, h2, h3⟩
theorem wpList_spreadW {P : Program} {w : World} {ops : Array Oper} {rest : List Oper} {o : Oper} {a : Act} {Q : Exit → Act → World → Prop} (hgd : Region.wanted o (yielded ops a.tmps) = true) (s x : Operand) (t : TypeId)
    (ho : o.op = .call { callee := .builtin .append, args := #[s, x], argTypes := #[t, t] })
    {base size bytes : Nat} {e : TypeId} (E : Elem P t e size bytes) {v : Value} (hs : a.eval s = v) {n : Nat} {xs : List Value} (hown : w.ownsRow base e size v n xs)
    {A : Option Addr} {m c B : Nat} (hx : a.eval x = .slice A m c) {news : List Value} (hr : Has w B A news)
    (h : ∀ A' c' w', w'.ownsRow base e size (.slice A' (n + m) c') (n + m) (xs ++ news) → w.grownBy w' v.ownBlock → Below base w w' → wpList P ops Q rest (a.put o.dst (.slice A' (n + m) c')) w')
    (hl : news.length = m * size) (h1 : ∀ u ∈ news, u.oneCell' = true) (hmax : ((n + m) + (n + m) / 4 + 192) * bytes ≤ 281474976710656) (h63 : n + m ≤ maxLen) (hbase : base ≤ w.heap.size) : wpList P ops Q (o :: rest) a w := by
  refine BigFrame.wpList_want hgd fun K hK => ?_
  obtain ⟨v', w', hrun, h2, h3⟩ := run_append_spreadW (ty := o.type) E hown (c := c) hr hl h1 hmax h63 hbase
  obtain ⟨A', c', rfl, _⟩ := own_form h2
  unfold Oper.wp execOp
  simp only [ho, resolve, invoke, builtin, Sem.run_bind, Sem.run_pure, Result.andThen_ok, List.map_toArray, List.map_cons, List.map_nil, hs, hx, hrun]
  exact hK _ _ (h A' c' w' h2 h3 (grown_below hown h3 hbase))
theorem OwnL.setBlk {w : World} {B c g : Nat} {A : Option Addr} {O : List ClE} {cs : Array Value} (h : OwnL w B A c O) (kb : Blk w g 28 cs) (i : Nat) (u : Value) : OwnL (w.setCell ⟨g, i, none⟩ u) B A c O :=
  ⟨rk_set h.1 (rk_ne kb h.1 (by decide)) i u, fun e he => rk_set (h.2 e he) (rk_ne kb (h.2 e he) (by decide)) i u⟩
theorem chain_ok {j : Nat} (hj : j ≤ 9223372036854775806) : ∀ e ∈ chain j ++ (chain j).reverse, e.ok := by
  intro e he
  have : e ∈ chain j := by
    rcases List.mem_append.1 he with h | h
    · exact h
    · exact List.mem_reverse.1 h
  unfold chain at this
  obtain ⟨i, hi, rfl⟩ := List.mem_map.1 this
  have := List.mem_range.1 hi
  exact ⟨⟨by simp only []; omega, by simp only []; omega⟩, ⟨by simp only []; omega, by simp only []; omega⟩⟩

set_option maxRecDepth 1000000 in
set_option maxHeartbeats 4000000 in
/-- is it not what all have? -/
theorem gal_any (e : LsE) (g : Nat) (A : Option Addr) (c : Nat) (O : List ClE) (w : World) (kb : Blk w g 28 #[.slice A O.length c]) (hO : LsAt w A O.length c O) (he : LsAt w e.A e.L.length e.c e.L) (hx : e.x = O.map ClE.x) :
    Calls Try.prog 23 #[e.v, .pointer (some ⟨g, 0, none⟩)] w (R1 (.bool false) (Below w.heap.size w)) := by
  have p0 : w.cell? ⟨g, 0, none⟩ = some (.slice A O.length c) := kb.cell 0
  have H := Lib.hid (sameQ (r := true) w (decide_eq_true (show e.L.map ClE.x = O.map ClE.x from hx)) he hO)
  clear hO he hx kb
  unfold LsE.v
  go_enter Try.func23, Try.ntmps23
  go_wp2_with fail
  refine (H.out).mono ?_
  rintro e w1 ⟨rfl, hb1⟩
  go_wp2_with fail
  go_ret
  exact R1.mk rfl hb1

set_option maxRecDepth 1000000 in
set_option maxHeartbeats 8000000 in
theorem gall_any (w : World) (A : Option Addr) (n c : Nat) (LL : List LsE) (hL : SsAt w A n c LL) (h24 : n * 24 ≤ 140737488351232) :
    Calls Try.prog 4 #[.slice A n c] w (R1 (.bool true) (Below w.heap.size w)) := by
  have HL := Lib.hid hL
  clear hL
  go_enter Try.func4, Try.ntmps4
  go_wp2_with fail
  refine (gossips_true _).mono ?_
  rintro e0 w1 ⟨rfl, hb1⟩
  go_wp2_with fail
  go_loopw [3, 4] (fun l i wr => ∃ (k : Nat) (O : Option Addr) (e : Nat), k ≤ n - 1 ∧ i = .int .i64 ((k : Int) + 1) ∧ l = .slice O k e ∧ wr.ownsRow w.heap.size 44 2 (.slice O k e) k (edCs (chain k)) ∧ Below w.heap.size w wr) (fun _ i _ => n + 5 - (intOf i).toNat)
  case atStart => exact ⟨0, none, 0, by omega, rfl, rfl, ⟨rfl, .inl ⟨rfl, rfl⟩⟩, hb1⟩
  case round =>
    obtain ⟨k, O, e, hk, rfl, rfl, hown, hbr⟩ := hrel
    have hbs := hbr.size
    by_cases hlt : (k : Int) + 1 < (n : Int)
    · have ew : IntKind.i64.wrap ((k : Int) + 1 - 1) = (k : Int) := (IntWalk.i64_in _ (by omega)).trans (by omega)
      have ew2 : IntKind.i64.wrap ((k : Int) + 1 + 1) = (k : Int) + 1 + 1 := IntWalk.i64_in _ (by omega)
      go_wp2_with (at_builtin; refine wpList_append1 rfl _ _ _ rfl elEd rfl hown rfl rfl rfl ?_ ?k1 ?k2 ?k3 ?k4; intro A6 e6 w6 hown6 hgrow6 hb6)
      case k1 => first | rfl | exact ⟨rfl, rfl⟩ | (intro u hu; simp at hu; rcases hu with rfl | rfl <;> rfl)
      case k2 => omega
      case k3 => unfold maxLen; omega
      case k4 => exact hbs
      have Hown6 := Lib.hid hown6
      have hb26 := hbr.trans hb6
      clear hown6 hgrow6 hown
      go_roundw
      case rel =>
        refine ⟨k + 1, A6, e6, by omega, by go_num, rfl, ?_, hb26⟩
        rw [chain_succ, edCs_app]
        exact Hown6.out
      case measure => simp [intOf]; omega
    · have hj : k = n - 1 := by omega
      have hkn : k ≤ 5864062014634 := by omega
      have Hj := Lib.hid hj
      have hcl := Lib.hid (chain_len k)
      clear hj hk
      have hownB := hown
      have hcap := own_cap hown
      have HOL := Lib.hid (Has.of_own hown)
      go_wp2_with fail
      refine (cloneEd_any O k e (edCs (chain k)) (by rw [edCs_len, hcl.out]) (edCs_one _) hcap (by omega) _ HOL.out).mono ?_
      rintro e0 w3 ⟨v, rfl, A3, c3, rfl, hown3, hb3⟩
      have hown' := own_next hown hb3
      have hbr3 := bnext hbr hb3
      go_wp2_with fail
      refine (revEd_any (chain k) hcl.out _ hb3.size hown3).mono ?_
      rintro e0 w4 ⟨rfl, hown4, hg4⟩
      have hne : ∀ q, (Value.slice O k e).ownBlock = some q → some q ≠ (Value.slice A3 k c3).ownBlock := fun q hq hq2 => by
        have h1 := rk_lt hown q hq
        have h2 := own_blockM hown3 q hq2.symm
        omega
      have hownL := rk_grown hown' hg4 hne
      have hb4 : Below wr.heap.size wr w4 := hb3.trans (grown_below hown3 hg4 hb3.size)
      have hbr4 := bnext hbr hb4
      have hbs4 := hbr4.size
      have hR4 := Lib.hid (Has.of_own hown4)
      clear hown3 hg4 hne hown' hown hownB hcap HOL hb3 hbr3
      go_wp2_with (at_builtin; refine wpList_spreadW rfl _ _ _ rfl elEd rfl hownL rfl hR4.out ?_ ?k1 ?k2 ?k3 ?k4 ?k5; intro A5 c5 w5 hown5 hg5 hb5)
      case k1 => rw [edCs_len, List.length_reverse, hcl.out]
      case k2 => exact edCs_one _
      case k3 => omega
      case k4 => unfold maxLen; omega
      case k5 => exact hbs4
      have hbr5 := hbr4.trans hb5
      have Hown5 := Lib.hid hown5
      clear hown5 hg5 hownL hR4
      obtain ⟨all, hall⟩ : ∃ all, LL.map LsE.x = all := ⟨_, rfl⟩
      have Hall := Lib.hid hall
      have hln := Lib.hid (show all.length = n by rw [← hall, List.length_map]; exact HL.out.1)
      clear hall
      obtain ⟨EL, hEL⟩ : ∃ EL, chain k ++ (chain k).reverse = EL := ⟨_, rfl⟩
      have HEL := Lib.hid hEL
      have hEd := Lib.hid (show EdAt w5 A5 (k + k) c5 EL from ⟨by rw [← hEL, List.length_append, List.length_reverse, hcl.out], (own_len Hown5.out).1, (own_len Hown5.out).2, by rw [← hEL, edCs_app]; exact Has.of_own Hown5.out, by rw [← hEL]; exact chain_ok (by omega)⟩)
      clear hEL
      obtain ⟨⟨p, z⟩, hp⟩ : ∃ r, spreadN all EL = r := ⟨_, rfl⟩
      have Hp := Lib.hid hp
      by_cases hz : z = 0
      · subst hz
        by_cases h2 : n < 2
        · have d2 : (n : Int) < 2 := by omega
          clear hp
          go_wp2_with fail
          refine (spread_any _ Hall.out Hp.out (HL.out.next hbr5) (by exact hEd.out)).mono ?_
          rintro e0 w6 ⟨v, rfl, OO, A1, c1, rfl, s1, hown6, hall6, hb6⟩
          clear hown6 hall6
          go_wp2_with fail
          go_ret
          exact R1.mk rfl (bnext hbr5 hb6)
        · have d2 : ¬ (n : Int) < 2 := by omega
          have hk1 : k = all.length - 1 := by rw [hln.out]; exact Hj.out
          obtain ⟨hmer, hrep⟩ := all_law (all := all) (by rw [hln.out]; omega) (by rw [← hk1, HEL.out, hp])
          rw [← hk1, HEL.out, hp, hln.out] at hrep
          rw [hln.out] at hmer
          have HM := Lib.hid hmer
          have HR := Lib.hid hrep
          have hn20 : n ≤ 20 := by have := (spread_zero (o := all) (l := EL) (by rw [hp])).1; rw [hln.out] at this; exact this
          clear hp hmer hrep hk1
          go_wp2_with fail
          refine (spread_any _ Hall.out Hp.out (HL.out.next hbr5) (by exact hEd.out)).mono ?_
          rintro e0 w6 ⟨v, rfl, OO, A1, c1, rfl, s1, hown6, hall6, hb6⟩
          have hb06 := bnext hbr5 hb6
          have S1 := Lib.hid (s1.trans HR.out)
          have hOn : OO.length = n := by have := congrArg List.length S1.out; rw [List.length_map, List.length_replicate] at this; exact this
          have HOn := Lib.hid hOn
          rw [hOn] at hown6 ⊢
          have HOw := Lib.hid (Has.of_own hown6)
          have HAl := Lib.hid hall6
          clear hOn hown6 hall6 s1
          have kb : Blk (w6.alloc (.cells #[.slice none 0 0] 28)) w6.heap.size 28 #[.slice none 0 0] := Blk.new _ _ _
          have hb7 := one_alloc w6 (.cells #[.slice none 0 0] 28)
          go_wp2_with fail
          obtain ⟨w7, hw7⟩ : ∃ w7, w6.alloc (.cells #[.slice none 0 0] 28) = w7 := ⟨_, rfl⟩
          rw [hw7] at kb hb7
          rw [hw7]
          obtain ⟨g, hg⟩ : ∃ g, w6.heap.size = g := ⟨_, rfl⟩
          rw [hg] at kb ⊢
          clear hw7
          go_loopw [56] (fun i wq => ∃ (q : Nat) (O : List ClE) (A' : Option Addr) (c' : Nat), q ≤ n ∧ i = .int .i64 (q : Nat) ∧ Blk wq g 28 #[.slice A' O.length c'] ∧ OwnL wq 0 A' c' O ∧ Hid (O.map ClE.x = pre all q) ∧ Below w6.heap.size w6 wq) (fun i _ => n - (intOf i).toNat)
          case atStart => exact ⟨0, [], none, 0, by omega, rfl, kb, OwnL.nil _ _, Lib.hid rfl, hb7⟩
          case round =>
            obtain ⟨q, O, A', c', hq, rfl, kbq, hO, hOx, hbq⟩ := hrel
            have hb0q := bnext hb06 hbq
            by_cases hlq : (q : Int) < (n : Int)
            · have lq := Lib.hid (show q < LL.length by rw [HL.out.1]; omega)
              obtain ⟨ad, rfl, had, c0⟩ := (HL.out.next hb0q).2.2.2.1.at (lsCs_at lq.out)
              have hgo := Lib.hid ((HL.out.next hb0q).2.2.2.2 _ (at_mem lq.out))
              have hmq := HM.out q (by omega)
              rw [← Hall.out, map_at lq.out, Hall.out] at hmq
              obtain ⟨x, hx⟩ : ∃ x, at_ LL q = x := ⟨_, rfl⟩
              rw [hx] at c0 hgo hmq
              clear hx
              have Hmq := Lib.hid (show mergeN (O.map ClE.x) (x.L.map ClE.x) = (pre all (q + 1), 0) by rw [hOx.out]; exact hmq)
              clear hmq
              have c0' : _ = some (Value.slice x.A x.L.length x.c) := c0
              clear c0
              have p0 : wr.cell? ⟨g, 0, none⟩ = some (.slice A' O.length c') := kbq.cell 0
              have hLO := Lib.hid hO.ls
              have hLx := Lib.hid (show LsAt wr x.A x.L.length x.c x.L from ⟨rfl, hgo.out.2.1, hgo.out.2.2.1, hgo.out.2.2.2.2.1, fun y hy => (hgo.out.1 y hy).1.1⟩)
              clear hO
              go_wp2_with fail
              refine (cmerge_any A' O.length c' O rfl hLO.out.2.1 hLO.out.2.2.1 x.A x.L.length x.c x.L rfl hLx.out.2.1 hLx.out.2.2.1 _ hLO.out.2.2.2.1 hLx.out.2.2.2.1 hLO.out.2.2.2.2 hLx.out.2.2.2.2).mono ?_
              rw [Hmq.out]
              rintro e9 w9 ⟨v, rfl, O3, A3, c3, rfl, s3, ho3, hr3, hb9⟩
              have kb9 := kbq.next hb9
              have HO3 := Lib.hid (OwnL.setBlk (OwnL.less ⟨ho3, hr3⟩ (Nat.zero_le _) : OwnL w9 0 A3 c3 O3) kb9 0 (.slice A3 O3.length c3))
              have S3 := Lib.hid s3
              have kb10 := kb9.set 0 (.slice A3 O3.length c3)
              have KB10 := Lib.hid (show Blk (w9.setCell ⟨g, 0, none⟩ (.slice A3 O3.length c3)) g 28 #[.slice A3 O3.length c3] by simpa using kb10)
              have hbq9 := bnext hbq hb9
              have p1 : w9.cell? ⟨g, 0, none⟩ = some (.slice A' O.length c') := kb9.cell 0
              have f1 := kb9.frozen 0
              clear ho3 hr3 s3 kb10 p0
              go_wp2_with fail
              go_roundw
              case rel => exact ⟨q + 1, O3, A3, c3, by omega, by go_num, KB10.out, HO3.out, S3, hbq9.setCell (by show w6.heap.size ≤ g; omega) _⟩
              case measure => simp [intOf]; omega
            · have hqn : n = q := by omega
              subst hqn
              have hOl := Lib.hid hO.ls
              go_wp2_with fail
              refine (conL_any 23 (fun _ _ => by kernel_rfl) (.pointer (some ⟨g, 0, none⟩)) (fun _ => false) A1 n c1 OO HOn.out (by omega) _ (by exact HOw.out.next hbq) (b := false) (by rw [Bool.eq_false_iff]; intro h9; obtain ⟨_, _, h9⟩ := anyN_true.1 h9; cases h9)
                (fun j hj w' hw' => gal_any (at_ OO j) g A' c' O w' (kbq.next hw') (hOl.out.next hw') ((((HAl.out.next hbq).next hw') _ (at_mem (by rw [HOn.out]; exact hj))).ls) (by
                  have hj2 : j < OO.length := by rw [HOn.out]; exact hj
                  rw [hOx.out, ← map_at hj2, S1.out]
                  unfold at_
                  rw [List.getD_eq_getElem?_getD, List.getElem?_replicate, if_pos hj]; rfl))).mono ?_
              rintro e9 w9 ⟨rfl, hb9⟩
              go_wp2_with fail
              go_ret
              exact R1.mk (by simp) (bnext hb0q hb9)
      · have hpe : p = [] := by have := spread_bad (o := all) (l := EL) (by rw [hp]; exact hz); rw [hp] at this; exact this
        subst hpe
        have f1 : (z != 0) = true := by rw [bne_iff_ne]; exact hz
        have f2 : (z == 0) = false := by rw [beq_eq_false_iff_ne]; exact hz
        clear hp
        go_wp2_with fail
        refine (spread_any _ Hall.out Hp.out (HL.out.next hbr5) (by exact hEd.out)).mono ?_
        rintro e0 w6 ⟨v, rfl, OO, A1, c1, rfl, s1, hown6, hall6, hb6⟩
        obtain rfl : OO = [] := List.map_eq_nil_iff.1 s1
        clear s1 hown6 hall6
        go_wp2_with fail
        go_ret
        exact R1.mk (by simp) (bnext hbr5 hb6)
theorem gossipAll_true (w : World) (A : Option Addr) (c : Nat) (LL : List LsE) (hL : ∀ e ∈ LL, e.good w) (h1 : LL.length ≤ c) (h2 : c ≤ maxLen) (_ : A = none → c = 0) (h3 : Has w w.heap.size A (lsCs LL)) (h4 : LL.length * 24 ≤ 140737488351232) :
    Calls Try.prog 4 #[.slice A LL.length c] w (R1 (.bool true) (Below w.heap.size w)) :=
  gall_any w A _ c LL ⟨rfl, h1, h2, h3, hL⟩ h4
end Go.Proofs.Ytokilodekbjpnaa
