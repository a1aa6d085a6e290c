/- What carry of package rank does to a box. Conditions: the box's rows are the call's own. -/
import Derived.Test.YthofijhjbaaokaaRkSt
import Derived.Test.YthofijhjbaaokaaSortI
import Derived.RegionTactic
import Derived.ChangeAlike
namespace Go.Proofs.Ythofijhjbaaokaa
open Go.RowKit

theorem pow_le30 {j : Nat} (h : j ≤ 30) : (1 : Int) ≤ 2 ^ j ∧ (2 : Int) ^ j ≤ 1073741824 := by
  have h1 : 2 ^ j ≤ 2 ^ 30 := Nat.pow_le_pow_right (by decide) h
  have h2 : 0 < 2 ^ j := Nat.pow_pos (by decide)
  have e : ((2 ^ j : Nat) : Int) = (2 : Int) ^ j := by rw [Int.natCast_pow]; rfl
  have h3 : (2 : Nat) ^ 30 = 1073741824 := by decide
  omega

theorem elV : Elem Try.prog 24 22 1 24 := Elem.mk' (z := .slice none 0 0) Try.underlying24 (by kernel_rfl) rfl (by decide)
theorem IntOwn.growV {w w' : World} {b : Nat} {v : Value} {r : List Int} (h : IntOwn w b v r) {lv : Value} {n : Nat} {vs : List Value} (hl : w.ownsRow b 22 1 lv n vs) (hg : w.grownBy w' lv.ownBlock) : IntOwn w' b v r := by
  obtain ⟨A, c, rfl, h1, h2⟩ := h
  exact ⟨A, c, rfl, h1.kept hg (own_neO h1 hl (by decide)), h2⟩
theorem RkS.grow {w w5 : World} {b g : Nat} {O : Oth} {K : Int} {tv : Value} {T : List Int} {B : Option Addr} {e : Nat} {L : List (List Int)} {vs : List Value} {N S : Int} (h : RkS w b g O K tv T B e L vs N S) (hg : w.grownBy w5 (Value.slice B L.length e).ownBlock)
    {A' : Option Addr} {c' : Nat} (ho : w5.ownsRow b 22 1 (.slice A' (L.length + 1) c') (L.length + 1) (vs ++ [.slice none 0 0])) (hnb : ∀ k, (Value.slice A' (L.length + 1) c').ownBlock = some k → (Value.slice B L.length e).ownBlock = some k ∨ w.heap.size ≤ k) :
    RkS (w5.setCell ⟨g, 2, none⟩ (.slice A' (L.length + 1) c')) b g O K tv T A' c' (L ++ [[]]) (vs ++ [.slice none 0 0]) N S := by
  have hk5 : Blk w5 g 26 #[.int .i64 K, tv, .slice B L.length e, .int .i64 N, .int .i64 S] := h.k.grown hg (fun e => h.lne e.symm)
  have hb5 := fun v r (hv : IntOwn w b v r) => hv.growV h.l hg
  have e1 : (L ++ [[]]).length = L.length + 1 := by simp
  have hk' := hk5.set 2 (.slice A' (L.length + 1) c')
  refine ⟨by rw [e1]; exact hk', h.hb, (hb5 _ _ h.t).set ((hb5 _ _ h.t).neBlk hk5 (by decide)) 2 _, by rw [e1]; exact own_setR ho (own_neR hk5 ho (by decide)) 2 _, fun k hk => ?_, fun q t cs ho => by
    obtain ⟨a, b, c, d⟩ := h.o q t cs ho
    refine ⟨(a.grown hg (fun e => d e.symm)).nb b 2 _, b, c, fun e => ?_⟩
    rcases hnb q (by rw [e1] at e; exact e) with h1 | h1
    · exact d h1
    · have := a.lt; omega⟩
  rw [e1] at hk
  rcases Nat.lt_or_ge k L.length with hlt | hge
  · obtain ⟨v, h1, h2, h3⟩ := h.r k hlt
    have h4 := hb5 _ _ h2
    refine ⟨v, by rw [List.getElem?_append_left (by rw [h.vlen]; exact hlt)]; exact h1, ?_, h3⟩
    rw [show at_ (L ++ [[]]) k = at_ L k from by simp [at_, List.getD, List.getElem?_append_left hlt]]
    exact h4.set (h4.neBlk hk5 (by decide)) 2 _
  · obtain rfl : k = L.length := by omega
    refine ⟨.slice none 0 0, by rw [← h.vlen]; simp, ?_, fun q hq => by cases hq⟩
    rw [show at_ (L ++ [[]]) L.length = [] from by simp [at_, List.getD]]
    exact IntOwn.nil _ _
def lenC : Option Value → Nat
  | some (.slice _ n _) => n
  | _ => 0
theorem rep_succ {α : Type} (l : List α) (x : α) (q : Nat) : l ++ List.replicate (q + 1) x = (l ++ List.replicate q x) ++ [x] := by rw [List.replicate_succ', List.append_assoc]

theorem IntOwn.lt {w : World} {b : Nat} {v : Value} {r : List Int} (h : IntOwn w b v r) {q : Nat} (hq : v.ownBlock = some q) : b ≤ q ∧ q < w.heap.size := by
  obtain ⟨A, c, rfl, h1, _⟩ := h
  exact h1.lt q hq
theorem IntOwn.neV {w : World} {b gl : Nat} {v : Value} {r : List Int} (h : IntOwn w b v r) {n c : Nat} {vs : List Value} (hl : w.ownsRow b 22 1 (.slice (some ⟨gl, 0, none⟩) n c) n vs) : v.ownBlock ≠ some gl := by
  obtain ⟨A, c, rfl, h1, _⟩ := h
  rcases own_neO h1 hl (by decide) with g1 | g1
  · rw [g1]; intro e; cases e
  · exact g1
theorem set_le64 {L : List (List Int)} {i : Nat} (h : ∀ k, k < L.length → (at_ L k).length ≤ 64) : ∀ k, k < (L.set i []).length → (at_ (L.set i []) k).length ≤ 64 := fun k hk => by
  rw [List.length_set] at hk
  by_cases hki : i = k
  · subst hki; simp [at_, List.getD, hk]
  · rw [show at_ (L.set i []) k = at_ L k from by simp [at_, List.getD, List.getElem?_set_ne hki]]
    exact h k hk
theorem i64in_sort {l : List Int} (h : I64in l) : I64in (sortI l) := fun x hx => h x ((sortI_perm l).mem_iff.1 hx)
theorem i64in_odds {l : List Int} (h : I64in l) {q : Nat} (hq : 2 * q ≤ l.length) : I64in (oddsN l q) := fun x hx => by
  obtain ⟨j, hj, rfl⟩ := List.mem_map.1 hx
  have := List.mem_range.1 hj
  exact h _ (at_mem (by omega))

/-- 'out = append(out, x)': the row's block is as it was, or a newer one -/
theorem wpList_append1n {P : Program} {w : World} {ops : Array Oper} {rest : List Oper} {o : Oper} {a : Act} {Q : Exit → Act → World → Prop} (hgd : Region.wanted o (yielded ops a.tmps) = true) (s x : Operand) (t : TypeId)
    (ho : o.op = .call { callee := .builtin .append, args := #[s, x], argTypes := #[t, t] })
    {base size bytes : Nat} {e : TypeId} (E : Elem P t e size bytes) {v : Value} (hs : a.eval s = v) {n : Nat} {xs : List Value} (hown : w.ownsRow base e size v n xs)
    {cs : Array Value} {e' : TypeId} {g : Nat} {c : Nat} (hx : a.eval x = .slice (some ⟨g, 0, none⟩) 1 c) (hg : g = w.heap.size) (hl : cs.size = size)
    (h : ∀ A' c' w', w'.ownsRow base e size (.slice A' (n + 1) c') (n + 1) (xs ++ cs.toList) → w.grownBy w' v.ownBlock → Below base w w' → (∀ k, (Value.slice A' (n + 1) c').ownBlock = some k → v.ownBlock = some k ∨ w.heap.size ≤ k) → wpList P ops Q rest (a.put o.dst (.slice A' (n + 1) c')) w')
    (h1 : ∀ u ∈ cs.toList, u.oneCell' = true) (hmax : (n + 1) * bytes ≤ 140737488355328) (h63 : n + 1 ≤ maxLen) (hbase : base ≤ w.heap.size) : wpList P ops Q (o :: rest) a (w.alloc (.cells cs e')) := by
  subst hg
  have hr : Has (w.alloc (.cells cs e')) (w.heap.size + 1) (some ⟨w.heap.size, 0, none⟩) cs.toList := fun _ => by
    refine ⟨_, rfl, Nat.lt_succ_self _, fun j u hu => ?_⟩
    have hadd : (⟨w.heap.size, 0, none⟩ : Addr).add j = ⟨w.heap.size, j, none⟩ := by unfold Addr.add; split <;> simp_all
    rw [hadd, cell_of_row _ _ _ cs e' (0, 0) (heap_alloc_new w _)]
    simpa using hu
  refine BigFrame.wpList_want hgd fun K hK => ?_
  obtain ⟨v', w', hrun, h2, h3, h4⟩ := run_append_spread (ty := o.type) E (hown.alloc _) (c := c) hr (by simpa using hl) h1 hmax h63 (by simp; omega)
  obtain ⟨A', c', rfl, _⟩ := own_form h2
  unfold Oper.wp execOp
  simp only [ho, resolve, invoke, builtin, Sem.run_bind, Sem.run_pure, Result.andThen_ok, List.map_toArray, List.map_cons, List.map_nil, hs, hx, hrun]
  have h5 : w.grownBy w' v.ownBlock := ⟨h3.os, h3.tape, h3.output, Nat.le_trans (by simp) h3.size, fun k hk hne => (h3.block k (by simp; omega) hne).trans (Below.heap_alloc _ _ _ hk)⟩
  refine hK _ _ (h A' c' w' h2 h5 (grown_below hown h5 hbase) (fun k hk => ?_))
  rcases h4 with h4 | h4
  · exact .inl (h4 ▸ hk)
  · right
    rw [h4] at hk
    injection hk with hk
    simp at hk
    omega

def CarryP (b g : Nat) (O : Oth) (K : Int) (tv : Value) (T : List Int) (N : Int) (L : List (List Int)) (S : Int) (l : List Int) (j : Nat) (w w' : World) : Prop :=
  ∃ L' S' B' e' vs', CarryR L S l j L' S' ∧ RkS w' b g O K tv T B' e' L' vs' N S' ∧ Below b w w'

set_option maxRecDepth 1000000 in
set_option maxHeartbeats 16000000 in
theorem carry_any (b g : Nat) (O : Oth) (K : Int) (tv : Value) (T : List Int) (N : Int) (B : Option Addr) (e : Nat) (L : List (List Int)) (vs : List Value) (S : Int) (HA : Option Addr) (m hc : Nat) (l : List Int) (j : Nat) (hm : l.length = m) (hm64 : m ≤ 64) (hj : j ≤ 25) (hLn : L.length ≤ 25) (hl64 : ∀ k, k < L.length → (at_ L k).length ≤ 64)
    (hS : 0 ≤ S) (hS2 : S ≤ 2305843009213693952) (w : World) (hbw : b ≤ w.heap.size) (h : RkS w b g O K tv T B e L vs N S) (hh : IntOwn w b (.slice HA m hc) l) (hd : ∀ q, (Value.slice HA m hc).ownBlock = some q → tv.ownBlock ≠ some q) :
    Calls Try.prog 32 #[.pointer (some ⟨g, 0, none⟩), .slice HA m hc, .int .i64 j] w (R1 (.tuple #[]) (CarryP b g O K tv T N L S l j w)) := by
  have HH := Lib.hid (show IntOwn w b (.slice HA m hc) l ∧ l.length = m ∧ ∀ q, (Value.slice HA m hc).ownBlock = some q → tv.ownBlock ≠ some q from ⟨hh, hm, hd⟩)
  have HL := Lib.hid hl64
  have HR := Lib.hid h
  obtain ⟨n, hn⟩ : ∃ n, L.length = n := ⟨_, rfl⟩
  obtain ⟨P, hP⟩ : ∃ P, CarryP b g O K tv T N L S l j w = P := ⟨_, rfl⟩
  have HP := Lib.hid hP
  rw [hn] at hLn
  rw [hP]
  clear hP hh hm hd h hl64
  go_enter Try.func32, Try.ntmps32
  go_wp2_with fail
  go_loopw [1, 2] (fun lv iv wr => ∃ (i : Nat) (HA' : Option Addr) (m' hc' : Nat) (l' : List Int) (B' : Option Addr) (e' : Nat) (L' : List (List Int)) (vs' : List Value) (S' : Int), iv = .int .i64 (i : Nat) ∧ lv = .slice HA' m' hc' ∧ j ≤ i ∧ (i ≤ n ∨ i = j) ∧ m' ≤ 64 ∧ 0 ≤ S' ∧ Hid (S' ≤ S + 2 ^ i) ∧
      Hid (RkS wr b g O K tv T B' e' L' vs' N S') ∧ Hid (IntOwn wr b (.slice HA' m' hc') l' ∧ l'.length = m' ∧ ∀ q, (Value.slice HA' m' hc').ownBlock = some q → tv.ownBlock ≠ some q) ∧ Hid (L'.length = n ∧ ∀ k, k < L'.length → (at_ L' k).length ≤ 64) ∧ Hid (∀ X Y, CarryR L' S' l' i X Y → CarryR L S l j X Y) ∧ Below b w wr) (fun _ i _ => n + 50 - (intOf i).toNat)
  case atStart => exact ⟨j, HA, m, hc, l, B, e, L, vs, S, rfl, rfl, Nat.le_refl _, .inr rfl, hm64, hS, Lib.hid (by have := (pow_le30 (show j ≤ 30 by omega)).1; omega), HR, HH, Lib.hid ⟨hn, HL.out⟩, Lib.hid (fun X Y h => h), Below.refl _ _⟩
  case round =>
    obtain ⟨i, HA', m', hc', l', B', e', L', vs', S', rfl, rfl, hji, hin, hm', hS', hS2', hR', hH', hL', hC', hbr⟩ := hrel
    clear HR HH HL
    have hi25 : i ≤ 25 := by omega
    obtain ⟨hp1, hp2⟩ := pow_le30 (show i ≤ 30 by omega)
    obtain ⟨y0, y1, y2, y3, y4⟩ := hR'.out.y
    have hbsz := hbr.size
    rw [hL'.out.1] at y2
    have hstop : (∃ u : Unit, (i : Int) < (n : Int) ∧ 0 < (at_ L' i).length) ∨ ((i : Int) < (n : Int) ∧ (at_ L' i).length = 0) ∨ ¬ (i : Int) < (n : Int) := by
      by_cases h1 : (i : Int) < (n : Int)
      · rcases Nat.eq_zero_or_pos (at_ L' i).length with h2 | h2
        · exact .inr (.inl ⟨h1, h2⟩)
        · exact .inl ⟨(), h1, h2⟩
      · exact .inr (.inr h1)
    rcases hstop with ⟨_, hlt, hpos⟩ | ⟨hlt, hzero⟩ | hge
    · obtain ⟨gl, v, rfl, hv, hcv, hfz, hbgl, hiv, hdv⟩ := hR'.out.cell (j := i) (by rw [hL'.out.1]; omega)
      have hr64 := hL'.out.2 i (by rw [hL'.out.1]; omega)
      have hia := hiv.at
      have hha := hH'.out.1.at
      have hII : I64in (at_ L' i ++ l') := by
        obtain ⟨_, _, _, _, h1⟩ := hiv
        obtain ⟨_, _, _, _, h2⟩ := hH'.out.1
        intro x hx
        rcases List.mem_append.1 hx with hx | hx
        · exact h1 x hx
        · exact h2 x hx
      obtain ⟨A3, c3, rfl, hia1, hia2, hia3, hia4, _⟩ := hia
      obtain ⟨A4, c4, e4, hha1, hha2, hha3, hha4, _⟩ := hha
      injection e4 with e41 e42 e43
      subst e41 e43
      clear e42
      rw [hH'.out.2.1] at hha1
      obtain ⟨r, hr⟩ : ∃ r, at_ L' i = r := ⟨_, rfl⟩
      have Hr := Lib.hid hr
      rw [hr] at hcv hpos hr64 hia1 hia4 hII
      clear hr hiv hv
      obtain ⟨p, hp⟩ : ∃ p, r.length = p := ⟨_, rfl⟩
      have Hp := Lib.hid hp
      rw [hp] at hcv hpos hr64 hia1
      clear hp
      have hb1 : Below wr.heap.size wr (wr.alloc (.cells #[Value.slice A3 p c3, .slice HA' m' hc'] 22)) := (Below.refl _ _).alloc (Nat.le_refl _) _
      have hk1 : Blk (wr.alloc (.cells #[Value.slice A3 p c3, .slice HA' m' hc'] 22)) wr.heap.size 22 #[Value.slice A3 p c3, .slice HA' m' hc'] := Blk.new _ _ _
      have HC := Lib.hid (concatI_any A3 p c3 r HA' m' hc' l' Hp.out hH'.out.2.1 (by omega) (by omega) hia3 hia1 hha3 hha1 _ (hia4.next hb1) (hha4.next hb1) ⟨wr.heap.size, 0, none⟩ hk1.lt (hk1.cell 0) (hk1.cell 1))
      have hsz1 := hb1.size
      obtain ⟨u, hu⟩ : ∃ u, p + m' = u := ⟨_, rfl⟩
      rw [hu] at HC
      have hu128 : u ≤ 128 := by omega
      have Hu := Lib.hid (show (r ++ l').length = u by rw [List.length_append, Hp.out, hH'.out.2.1]; exact hu)
      have Hi4 := Lib.hid hia4
      clear hk1 hia4 hha4 hia3 hha3 hia1 hia2 hha1 hha2
      go_wp2_with fail
      refine HC.out.mono ?_
      rintro e9 w2 ⟨v, rfl, A5, c5, rfl, hown2, hb2⟩
      have hb12 : Below wr.heap.size wr w2 := bnext hb1 hb2
      have hs2 := Lib.hid (sortI_any (r ++ l') Hu.out (by omega) w2 hown2)
      have Hown2 := Lib.hid hown2
      clear hown2
      go_wp2_with fail
      refine hs2.out.mono ?_
      rintro e9 w3 ⟨rfl, hown3, hgrow3⟩
      have hb13 : Below wr.heap.size wr w3 := bnext hb1 (hb2.trans (grown_below Hown2.out hgrow3 hb2.size))
      have hRx3 := Lib.hid (hR'.out.next hb13)
      have hU3 : Has w3 w3.heap.size A5 (i64s (sortI (r ++ l'))) := Has.of_own hown3
      obtain ⟨U, hU⟩ : ∃ U, sortI (r ++ l') = U := ⟨_, rfl⟩
      have hUl : U.length = u := by rw [← hU, sortI_len]; exact Hu.out
      rw [hU] at hU3
      have HU := Lib.hid hU
      have HUl := Lib.hid hUl
      have HUI := Lib.hid (show I64in U from by rw [← hU]; exact i64in_sort hII)
      have hb3 := Lib.hid (hbr.trans (hb13.mono (Nat.le_trans hbw hbsz)))
      have hsz3 := Lib.hid hb13.size
      clear hU hUl hown3 hgrow3 hs2 hb2 hb12 hII HC
      obtain ⟨W3, rfl⟩ : ∃ W3, W3 = w3 := ⟨_, rfl⟩
      go_wp2_with fail
      go_loopw [1, 7] (fun dv zv wq => ∃ (q z : Nat) (D : Option Addr) (dc : Nat), zv = .int .i64 (z : Nat) ∧ dv = .slice D q dc ∧ Hid (z = 2 * q + 1 ∧ 2 * q ≤ u) ∧ Hid (wq.ownsRow W3.heap.size 2 1 (.slice D q dc) q (i64s (oddsN U q))) ∧ Below W3.heap.size W3 wq) (fun _ zv _ => u + 5 - (intOf zv).toNat)
      case atStart => exact ⟨0, 1, none, 0, rfl, rfl, Lib.hid ⟨rfl, by omega⟩, Lib.hid (World.ownsRow_nil _ _ _ _), Below.refl _ _⟩
      case round =>
        obtain ⟨q, z, D, dc, rfl, rfl, hz, hown, hbq⟩ := hrel
        obtain ⟨wq, rfl⟩ : ∃ wq, wq = wr := ⟨_, rfl⟩
        by_cases hzu : (z : Int) < (u : Int)
        · obtain ⟨ad, rfl, had, c0⟩ := (hU3.next hbq).at (i64s_at (show z < U.length by rw [HUl.out]; omega))
          obtain ⟨y, hy⟩ : ∃ y, at_ U z = y := ⟨_, rfl⟩
          rw [hy] at c0
          have Hy := Lib.hid hy
          clear hy
          have hbs := Lib.hid hbq.size
          have hq64 : q ≤ 64 := by have := hz.out; omega
          have hzu' : z ≤ 128 := by omega
          go_wp2_with (at_builtin; refine wpList_append1 rfl _ _ _ rfl elI64 (v := .slice D q dc) rfl hown.out rfl rfl rfl ?_ ?j1 ?j2 ?j3 ?j4; intro A6 c6 w6 hown6 hgrow6 hbel6)
          case j1 => first | rfl | (intro u hu; simp at hu; subst hu; rfl)
          case j2 => omega
          case j3 => unfold maxLen; omega
          case j4 => exact hbs.out
          have HO := Lib.hid hown6
          have HB := Lib.hid hbel6
          clear hown6 hbel6 hgrow6
          go_wp2_with fail
          go_roundw
          case rel => exact ⟨q + 1, z + 2, A6, c6, by go_num, rfl, Lib.hid (by have := hz.out; omega), Lib.hid (by rw [oddsN_succ, i64sC_app, ← hz.out.1, Hy.out]; exact HO.out), hbq.trans HB.out⟩
          case measure => simp [intOf]; omega
        · have hq : Hid (q = u / 2) := Lib.hid (by have := hz.out; omega)
          have hRq := Lib.hid (hRx3.out.next hbq)
          have HOd := Lib.hid (show odds (sortI (at_ L' i ++ l')) = oddsN U q from by rw [Hr.out, HU.out, odds, HUl.out, hq.out])
          obtain ⟨x0, x1, x2, x3, x4⟩ := hRq.out.y
          rw [hL'.out.1] at x2
          have hq64 : q ≤ 64 := by have := hq.out; omega
          obtain ⟨gl2, v2, egl, hv2, hcv2, hfz2, _, _, _⟩ := hRq.out.cell (j := i) (by rw [hL'.out.1]; omega)
          injection egl with egl
          injection egl with egl _ _
          subst egl
          have hRow := Lib.hid (hRq.out.row (j := i) (by rw [hL'.out.1]; omega) (IntOwn.nil wq b) (fun q hq => by cases hq))
          have hKe : IntOwn wq b (.slice D q dc) (oddsN U q) := ⟨D, dc, by rw [oddsN_len], by rw [oddsN_len]; exact own_less hown.out (Nat.le_trans hbw (Nat.le_trans hbsz hsz3.out)), i64in_odds HUI.out (by rw [HUl.out]; exact hz.out.2)⟩
          have hKd : ∀ q', (Value.slice D q dc).ownBlock = some q' → tv.ownBlock ≠ some q' := fun q' h1 h2 => by
            have h3 := (hown.out.lt q' h1).1
            have h4 := (hR'.out.t.lt h2).2
            have := hsz3.out
            omega
          have HK := Lib.hid (show IntOwn (wq.setCell ⟨gl, i, none⟩ (.slice none 0 0)) b (.slice D q dc) (oddsN U q) ∧ (oddsN U q).length = q ∧ ∀ q', (Value.slice D q dc).ownBlock = some q' → tv.ownBlock ≠ some q' from ⟨hKe.set (hKe.neV hRq.out.l) i _, oddsN_len _ _, hKd⟩)
          have hb6 := Lib.hid (below_setR ((hb3.out).trans (hbq.mono (Nat.le_trans hbw (Nat.le_trans hbsz hsz3.out)))) hbgl i (.slice none 0 0))
          clear hKe hKd hv2
          go_wp2_with fail
          obtain ⟨W6, hW6⟩ : ∃ W6, wq.setCell ⟨gl, i, none⟩ (.slice none 0 0) = W6 := ⟨_, rfl⟩
          rw [hW6] at hRow HK hb6 ⊢
          clear hW6 x0 x1 x2 x3 x4 hcv2 hfz2
          obtain ⟨x0, x1, x2, x3, x4⟩ := hRow.out.y
          have f4 : W6.frozen? ⟨g, 4, none⟩ = false := hRow.out.k.frozen 4
          go_region
          have ew : wrap64 (S' + 2 ^ i) = S' + 2 ^ i := wrap_id (by have := hS2'.out; omega)
          rw [ew]
          have hBox := Lib.hid (hRow.out.box 4 (.int .i64 (S' + 2 ^ i)) K N (S' + 2 ^ i) rfl)
          have HK7 := Lib.hid (show IntOwn (W6.setCell ⟨g, 4, none⟩ (.int .i64 (S' + 2 ^ i))) b (.slice D q dc) (oddsN U q) from HK.out.1.set (HK.out.1.neBlk hRow.out.k (by decide)) 4 _)
          have hb7 := Lib.hid (below_setR hb6.out hRow.out.hb 4 (.int .i64 (S' + 2 ^ i)))
          clear ew x0 x1 x2 x3 x4 f4
          obtain ⟨W7, hW7⟩ : ∃ W7, W6.setCell ⟨g, 4, none⟩ (.int .i64 (S' + 2 ^ i)) = W7 := ⟨_, rfl⟩
          rw [hW7] at hBox HK7 hb7 ⊢
          clear hW7
          have hb8 : Below W7.heap.size W7 W7.drew := below_drewN (Below.refl _ _) 1
          have hBox := Lib.hid (hBox.out.next hb8)
          have HK8 := Lib.hid (show IntOwn W7.drew b (.slice D q dc) (oddsN U q) ∧ (oddsN U q).length = q ∧ ∀ q', (Value.slice D q dc).ownBlock = some q' → tv.ownBlock ≠ some q' from ⟨HK7.out.next hb8, HK.out.2⟩)
          have hb9 := Lib.hid (below_drewN hb7.out 1)
          have hpos' := Lib.hid hpos
          clear hb8
          obtain ⟨W8, hW8⟩ : ∃ W8, W7.drew = W8 := ⟨_, rfl⟩
          have hb9 : Hid (Below b w W7.drew) := hb9
          rw [hW8] at hBox HK8 hb9 ⊢
          clear hW8
          go_wp2_with fail
          go_roundw
          case rel => exact ⟨i + 1, D, q, dc, oddsN U q, _, e', L'.set i [], _, S' + 2 ^ i, by go_num, rfl, by omega, .inl (by omega), hq64, by omega, Lib.hid (by have := hS2'.out; rw [Int.pow_succ]; omega), hBox, HK8, Lib.hid ⟨by rw [List.length_set]; exact hL'.out.1, set_le64 hL'.out.2⟩, Lib.hid (fun X Y hXY => hC'.out X Y (CarryR.step (by rw [hL'.out.1]; omega) (by rw [Hr.out, Hp.out]; exact hpos'.out) (by rw [HOd.out]; exact hXY))), hb9.out⟩
          case measure => simp [intOf]; omega
    · obtain ⟨gl, v, rfl, hv, hcv, hfz, hbgl, hiv, hdv⟩ := hR'.out.cell (j := i) (by rw [hL'.out.1]; omega)
      obtain ⟨A3, c3, rfl, hiv2, _⟩ := hiv
      rw [hzero] at hcv
      clear hiv2 hdv hv
      go_wp2_with fail
      obtain ⟨W0, rfl⟩ : ∃ W0, W0 = wr := ⟨_, rfl⟩
      go_loopw [] (fun wq => ∃ (q p : Nat) (B2 : Option Addr) (e2 : Nat), Hid (p = n + q) ∧ (q = 0 ∨ p ≤ i + 1) ∧ p ≤ 50 ∧ Hid (RkS wq b g O K tv T B2 e2 (L' ++ List.replicate q []) (vs' ++ List.replicate q (.slice none 0 0)) N S') ∧ Hid (IntOwn wq b (.slice HA' m' hc') l') ∧ Below b w wq) (fun wq => i + 60 - lenC (wq.cell? ⟨g, 2, none⟩))
      case atStart => exact ⟨0, n, _, _, Lib.hid rfl, .inl rfl, by omega, Lib.hid (by simpa using hR'.out), Lib.hid hH'.out.1, hbr⟩
      case round =>
        obtain ⟨q, p, B2, e2, hp, hqp, hp50, hR2, hO2, hbr2⟩ := hrel
        obtain ⟨wq, rfl⟩ : ∃ wq, wq = wr := ⟨_, rfl⟩
        have hlen : (L' ++ List.replicate q []).length = p := by rw [List.length_append, List.length_replicate, hL'.out.1, hp.out]
        have hbs2 := hbr2.size
        obtain ⟨Lq, hLq⟩ : ∃ Lq, L' ++ List.replicate q [] = Lq := ⟨_, rfl⟩
        obtain ⟨vq, hvq⟩ : ∃ vq, vs' ++ List.replicate q (Value.slice none 0 0) = vq := ⟨_, rfl⟩
        rw [hLq, hvq] at hR2
        rw [hLq] at hlen
        subst hlen
        have HLq := Lib.hid hLq
        have Hvq := Lib.hid hvq
        clear hLq hvq
        obtain ⟨z0, z1, z2, z3, z4⟩ := hR2.out.y
        by_cases hle : (Lq.length : Int) ≤ (i : Int)
        · have hbw2 : b ≤ wq.heap.size := by omega
          have hol := Lib.hid hR2.out.l
          go_wp2_with (at_builtin; refine wpList_append1n rfl _ _ _ rfl elV (v := .slice B2 Lq.length e2) rfl hol.out rfl rfl rfl ?_ ?k1 ?k2 ?k3 ?k4; intro A5 c5 w5 hown5 hgrow5 hbel5 hnew5; have hk5 := hR2.out.k.grown hgrow5 (fun e => hR2.out.lne e.symm); have x2 : w5.cell? ⟨g, 2, none⟩ = some (.slice B2 Lq.length e2) := hk5.cell 2; have f2 : w5.frozen? ⟨g, 2, none⟩ = false := hk5.frozen 2)
          case k1 => first | rfl | (intro u hu; simp at hu; subst hu; rfl)
          case k2 => omega
          case k3 => unfold maxLen; omega
          case k4 => exact hbw2
          have hown5 : w5.ownsRow b 22 1 (.slice A5 (Lq.length + 1) c5) (Lq.length + 1) (vq ++ [.slice none 0 0]) := hown5
          have HR5 := Lib.hid (hR2.out.grow hgrow5 hown5 hnew5)
          have HO5 := Lib.hid (show IntOwn (w5.setCell ⟨g, 2, none⟩ (.slice A5 (Lq.length + 1) c5)) b (.slice HA' m' hc') l' from by
            have h1 := hO2.out.growV hol.out hgrow5
            exact h1.set (h1.neBlk (hR2.out.k.grown hgrow5 (fun e => hR2.out.lne e.symm)) (by decide)) 2 _)
          have hb5 := Lib.hid (below_setR (hbr2.trans hbel5) hR2.out.hb 2 (.slice A5 (Lq.length + 1) c5))
          have hc5 := Lib.hid HR5.out.y.2.2.1
          have hc2 := Lib.hid z2
          clear hown5 hgrow5 hbel5 hnew5
          go_wp2_with fail
          go_roundw
          case rel => exact ⟨q + 1, Lq.length + 1, A5, c5, Lib.hid (by have := hp.out; omega), .inr (by omega), by omega, Lib.hid (by rw [rep_succ, rep_succ, HLq.out, Hvq.out]; exact HR5.out), HO5, hb5.out⟩
          case measure =>
            rw [hc5.out, hc2.out]
            simp [lenC]
            omega
        · have hq : q = i + 1 - n := by have := hp.out; omega
          obtain ⟨gl2, v2, rfl, hv2, hcv2, hfz2, hbgl2, hiv2, hdv2⟩ := hR2.out.cell (j := i) (by omega)
          have HF := Lib.hid (show CarryP b g O K tv T N L S l j w (wq.setCell ⟨gl2, i, none⟩ (.slice HA' m' hc')) from ⟨_, _, _, _, _, hC'.out _ _ (CarryR.stop (by rw [hL'.out.1]; omega)), by
            rw [hL'.out.1, ← hq, HLq.out]
            exact hR2.out.row (by omega) hO2.out hH'.out.2.2, below_setR hbr2 hbgl2 _ _⟩)
          clear hv2 hiv2 hdv2
          go_wp2_with fail
          exact bodyPost_end (v := .tuple #[]) (results_none rfl _ _ _) rfl (R1.mk rfl (by rw [← HP.out]; exact HF.out))
    · have hzero : n ≤ i := by omega
      go_wp2_with fail
      obtain ⟨W0, rfl⟩ : ∃ W0, W0 = wr := ⟨_, rfl⟩
      go_loopw [] (fun wq => ∃ (q p : Nat) (B2 : Option Addr) (e2 : Nat), Hid (p = n + q) ∧ (q = 0 ∨ p ≤ i + 1) ∧ p ≤ 50 ∧ Hid (RkS wq b g O K tv T B2 e2 (L' ++ List.replicate q []) (vs' ++ List.replicate q (.slice none 0 0)) N S') ∧ Hid (IntOwn wq b (.slice HA' m' hc') l') ∧ Below b w wq) (fun wq => i + 60 - lenC (wq.cell? ⟨g, 2, none⟩))
      case atStart => exact ⟨0, n, _, _, Lib.hid rfl, .inl rfl, by omega, Lib.hid (by simpa using hR'.out), Lib.hid hH'.out.1, hbr⟩
      case round =>
        obtain ⟨q, p, B2, e2, hp, hqp, hp50, hR2, hO2, hbr2⟩ := hrel
        obtain ⟨wq, rfl⟩ : ∃ wq, wq = wr := ⟨_, rfl⟩
        have hlen : (L' ++ List.replicate q []).length = p := by rw [List.length_append, List.length_replicate, hL'.out.1, hp.out]
        have hbs2 := hbr2.size
        obtain ⟨Lq, hLq⟩ : ∃ Lq, L' ++ List.replicate q [] = Lq := ⟨_, rfl⟩
        obtain ⟨vq, hvq⟩ : ∃ vq, vs' ++ List.replicate q (Value.slice none 0 0) = vq := ⟨_, rfl⟩
        rw [hLq, hvq] at hR2
        rw [hLq] at hlen
        subst hlen
        have HLq := Lib.hid hLq
        have Hvq := Lib.hid hvq
        clear hLq hvq
        obtain ⟨z0, z1, z2, z3, z4⟩ := hR2.out.y
        by_cases hle : (Lq.length : Int) ≤ (i : Int)
        · have hbw2 : b ≤ wq.heap.size := by omega
          have hol := Lib.hid hR2.out.l
          go_wp2_with (at_builtin; refine wpList_append1n rfl _ _ _ rfl elV (v := .slice B2 Lq.length e2) rfl hol.out rfl rfl rfl ?_ ?k1 ?k2 ?k3 ?k4; intro A5 c5 w5 hown5 hgrow5 hbel5 hnew5; have hk5 := hR2.out.k.grown hgrow5 (fun e => hR2.out.lne e.symm); have x2 : w5.cell? ⟨g, 2, none⟩ = some (.slice B2 Lq.length e2) := hk5.cell 2; have f2 : w5.frozen? ⟨g, 2, none⟩ = false := hk5.frozen 2)
          case k1 => first | rfl | (intro u hu; simp at hu; subst hu; rfl)
          case k2 => omega
          case k3 => unfold maxLen; omega
          case k4 => exact hbw2
          have hown5 : w5.ownsRow b 22 1 (.slice A5 (Lq.length + 1) c5) (Lq.length + 1) (vq ++ [.slice none 0 0]) := hown5
          have HR5 := Lib.hid (hR2.out.grow hgrow5 hown5 hnew5)
          have HO5 := Lib.hid (show IntOwn (w5.setCell ⟨g, 2, none⟩ (.slice A5 (Lq.length + 1) c5)) b (.slice HA' m' hc') l' from by
            have h1 := hO2.out.growV hol.out hgrow5
            exact h1.set (h1.neBlk (hR2.out.k.grown hgrow5 (fun e => hR2.out.lne e.symm)) (by decide)) 2 _)
          have hb5 := Lib.hid (below_setR (hbr2.trans hbel5) hR2.out.hb 2 (.slice A5 (Lq.length + 1) c5))
          have hc5 := Lib.hid HR5.out.y.2.2.1
          have hc2 := Lib.hid z2
          clear hown5 hgrow5 hbel5 hnew5
          go_wp2_with fail
          go_roundw
          case rel => exact ⟨q + 1, Lq.length + 1, A5, c5, Lib.hid (by have := hp.out; omega), .inr (by omega), by omega, Lib.hid (by rw [rep_succ, rep_succ, HLq.out, Hvq.out]; exact HR5.out), HO5, hb5.out⟩
          case measure =>
            rw [hc5.out, hc2.out]
            simp [lenC]
            omega
        · have hq : q = i + 1 - n := by have := hp.out; omega
          obtain ⟨gl2, v2, rfl, hv2, hcv2, hfz2, hbgl2, hiv2, hdv2⟩ := hR2.out.cell (j := i) (by omega)
          have HF := Lib.hid (show CarryP b g O K tv T N L S l j w (wq.setCell ⟨gl2, i, none⟩ (.slice HA' m' hc')) from ⟨_, _, _, _, _, hC'.out _ _ (CarryR.stop (by rw [hL'.out.1]; omega)), by
            rw [hL'.out.1, ← hq, HLq.out]
            exact hR2.out.row (by omega) hO2.out hH'.out.2.2, below_setR hbr2 hbgl2 _ _⟩)
          clear hv2 hiv2 hdv2
          go_wp2_with fail
          exact bodyPost_end (v := .tuple #[]) (results_none rfl _ _ _) rfl (R1.mk rfl (by rw [← HP.out]; exact HF.out))
end Go.Proofs.Ythofijhjbaaokaa
