/- What Delta of package gossip gives. Conditions: claims lie in their cells; what was seen rises by name. -/
import Derived.Test.YtokilodekbjpnaaDigest
import Derived.Maps.Own
import Derived.Maps.OwnSet
import Derived.StringKeys
namespace Go.Proofs.Ytokilodekbjpnaa
open Go.RowKit Go.Maps Go.WideMaps

theorem lawStr : Keyed Try.prog 9 := string_keyed Try.underlying9
theorem zeroI (w : World) : (zeroValue 2).run Try.prog w = .ok (.int .i64 0) w := by kernel_rfl
def MapAt (w : World) (b k : Nat) (D : DataW Unit) : Prop := w.ownsMap Try.prog 9 (plainElem Try.prog 2) b k D
theorem below_grownM {w w' : World} (hb : Below w.heap.size w w') : w.grownBy w' none := ⟨hb.os, hb.tape, hb.output, hb.size, fun k hk _ => hb.block k hk⟩
theorem MapAt.next {w w' : World} {b k : Nat} {D : DataW Unit} (h : MapAt w b k D) (hb : Below w.heap.size w w') : MapAt w' b k D := World.ownsMap.kept h (below_grownM hb) (by simp)
theorem MapAt.lt {w : World} {b k : Nat} {D : DataW Unit} (h : MapAt w b k D) : b < w.heap.size := World.ownsMap.lt h
theorem MapAt.ne {w : World} {b k : Nat} {D : DataW Unit} {base size n : Nat} {e : TypeId} {v : Value} {xs : List Value} (h : MapAt w b k D) (ho : w.ownsRow base e size v n xs) : some b ≠ v.ownBlock := by
  obtain ⟨es, clock, hb, _⟩ := h
  rcases ho.2 with ⟨rfl, _⟩ | ⟨q, cap, cur, rfl, _, hg, _⟩
  · intro h; cases h
  · intro h
    injection h with h
    have h : b = q := h
    subst h
    rw [hb] at hg
    injection hg with hg
    cases hg
theorem filter_step {L : List ClE} {k : Nat} (h : k < L.length) (p : Clm → Bool) : ((L.take (k + 1)).map ClE.x).filter p = ((L.take k).map ClE.x).filter p ++ (if p (at_ L k).x then [(at_ L k).x] else []) := by
  rw [take_at h, List.map_append, List.filter_append]
  congr 1
  simp only [List.map_cons, List.map_nil, List.filter_cons, List.filter_nil]
def In64 (v : Int) : Prop := -9223372036854775808 ≤ v ∧ v ≤ 9223372036854775807

set_option maxRecDepth 1000000 in
set_option maxHeartbeats 8000000 in
theorem delta_any {A B : Option Addr} {n c m d : Nat} {L : List ClE} {S : List Sn} {a : List Clm} {r : List Clm × Int} (w : World) (ha : L.map ClE.x = a) (hr : deltaN a S = r) (hL : LsAt w A n c L) (hm : S.length = m) (hS : Has w w.heap.size B (snCs S)) (hRi : RiseS S) (h20 : m ≤ 20) (hsz : ∀ s ∈ S, s.nm.size ≤ 20) (hv : ∀ s ∈ S, In64 s.v) :
    Calls Try.prog 87 #[.slice A n c, .slice B m d] w (RV (MergeP r w)) := by
  obtain ⟨z, hz⟩ : ∃ z, checkC a = z := ⟨_, rfl⟩
  have hck := ccheck_any A n c L hL.1 (Nat.le_trans hL.2.1 hL.2.2.1)
  rw [ha, hz] at hck
  by_cases hz0 : z = 0
  · subst hz0
    have hr2 : r = (a.filter (keepS S), 0) := by rw [← hr]; unfold deltaN; rw [if_neg (by rw [hz]; simp)]
    have hc20 := checkC_20 (L := L) (by rw [ha]; exact hz)
    have hn20 : n ≤ 20 := by have := hL.1; have := hc20.1; omega
    have hF := Lib.hid (show Few w L from fun e he => ⟨hL.2.2.2.2 e he, hc20.2 e he⟩)
    have hnm := Lib.hid (show ∀ e ∈ L, e.nm.size ≤ 20 from fun e he => by
      have hn := ((checkC_zero.1 hz).2.1 e.x (by rw [← ha]; exact List.mem_map_of_mem he)).1
      unfold nodeN at hn
      split at hn
      · omega
      · rename_i hq; have : ¬ 20 < e.nm.size := fun h => hq (.inr h); omega)
    have HL := Lib.hid hL; clear hL
    have Ha := Lib.hid ha
    have HR := Lib.hid hr2
    have Hck := Lib.hid hck
    have Hm := Lib.hid hm
    have Hsz := Lib.hid hsz
    have Hv := Lib.hid hv
    have HRi := Lib.hid hRi
    have hmm := @run_makeMap Try.prog
    clear hr hr2 ha hz hck hc20 hm hsz hv hRi
    go_enter Try.func87, Try.ntmps87
    go_wp2_with fail
    refine (Hck.out _ HL.out.2.2.2.1 HL.out.2.2.2.2).mono ?_
    rintro e w1 ⟨rfl, hb1⟩
    have hM0 : MapAt (w1.alloc (.map #[] 0)) w1.heap.size 0 (seenD []) := World.ownsMap_made _ _ _ _
    have hbm0 : Below w.heap.size w (w1.alloc (.map #[] 0)) := hb1.alloc hb1.size _
    have hbw : w.heap.size ≤ w1.heap.size := hb1.size
    go_wp2_with fail
    obtain ⟨bm, hbm⟩ : ∃ bm, w1.heap.size = bm := ⟨_, rfl⟩
    rw [hbm] at hM0 hbw ⊢
    obtain ⟨w2, hw2⟩ : ∃ w2, w1.alloc (.map #[] 0) = w2 := ⟨_, rfl⟩
    rw [hw2] at hM0 hbm0 ⊢
    clear hw2 hbm hb1
    go_loopw [26] (fun i wr => ∃ k : Nat, k ≤ m ∧ i = .int .i64 (k : Nat) ∧ MapAt wr bm k (seenD (S.take k)) ∧ Below w.heap.size w wr) (fun i _ => m + 5 - (intOf i).toNat)
    case atStart => exact ⟨0, by omega, rfl, hM0, hbm0⟩
    case round =>
      clear hM0 hbm0
      obtain ⟨k, hk, rfl, hM, hbr⟩ := hrel
      have hbs := hbr.size
      by_cases hlt : (k : Int) < (m : Int)
      · have l1 := Lib.hid (show k < S.length by rw [Hm.out]; omega)
        obtain ⟨bd, rfl, hbd, d0, d1⟩ := (hS.below hbr).snAt l1.out
        have hmem := at_mem l1.out
        have hs20 := Lib.hid (Hsz.out _ hmem)
        have hsv := Lib.hid (Hv.out _ hmem)
        have hst := Lib.hid (show seenD (S.take (k + 1)) = (seenD (S.take k)).put (keyS (at_ S k).nm) (.lit (.int .i64 (at_ S k).v)) by rw [take_at l1.out, seenD_snoc])
        clear hmem
        by_cases hk0 : k = 0
        · subst hk0
          obtain ⟨s, hs⟩ : ∃ s, at_ S 0 = s := ⟨_, rfl⟩
          rw [hs] at d0 d1 hs20 hsv hst
          clear hs
          have d0 : wr.cell? bd = some (.string s.nm) := by simpa [Addr.add] using d0
          have d1 : wr.cell? ⟨bd.block, bd.off + 1, none⟩ = some (.int .i64 s.v) := by simpa [Addr.add] using d1
          have kg : Blk (wr.alloc (.cells #[.string s.nm, .int .i64 s.v] 119)) wr.heap.size 119 #[.string s.nm, .int .i64 s.v] := Blk.new _ _ _
          have y0 : (wr.alloc (.cells #[.string s.nm, .int .i64 s.v] 119)).cell? ⟨wr.heap.size, 0, none⟩ = some (.string s.nm) := kg.cell 0
          have hMA := hM.next (one_alloc wr (.cells #[.string s.nm, .int .i64 s.v] 119))
          have hbA := hbr.alloc hbs (.cells #[.string s.nm, .int .i64 s.v] 119)
          go_wp2_with fail
          go_quiet (fail)
          obtain ⟨we, hwe⟩ : ∃ we, (wr.alloc (.cells #[.string s.nm, .int .i64 s.v] 119)).drewN nq = we := ⟨_, rfl⟩
          have kg : Blk we wr.heap.size 119 #[.string s.nm, .int .i64 s.v] := by rw [← hwe]; exact kg.drewN _
          have hMe : MapAt we bm 0 (seenD (S.take 0)) := by rw [← hwe]; exact hMA.next (below_drewN (Below.refl _ _) _)
          have hbe : Below w.heap.size w we := by rw [← hwe]; exact below_drewN hbA _
          rw [hwe]
          clear hwe y0 hMA hbA
          obtain ⟨gs, hgs⟩ : ∃ gs, wr.heap.size = gs := ⟨_, rfl⟩
          rw [hgs] at kg ⊢
          clear hgs
          have y0 : we.cell? ⟨gs, 0, none⟩ = some (.string s.nm) := kg.cell 0
          have y1 : we.cell? ⟨gs, 1, none⟩ = some (.int .i64 s.v) := kg.cell 1
          have hkey := keyOf_string_mk Try.underlying9 (s := s.nm) (by have := hs20.out; unfold maxLen; omega)
          have hWF : (Lit.int .i64 s.v).wf = true := WalkArith.wf_i64 (by have h1 := hsv.out.1; have h2 := hsv.out.2; omega)
          go_wp2_with (at_mapUpdate; refine wpList_mapUpdate_own _ rfl _ _ _ 145 rfl 9 2 lawStr Try.underlying145 _ bm 0 _ rfl hMe (by unfold maxLen; omega) _ _ _ rfl rfl hkey _ [] (plainElem_int Try.underlying2 hWF) ?_; intro w6 hM6 hgrow6)
          have hb6 : Below w.heap.size w w6 := hbe.grown hgrow6 hbe.size (fun j hj => by injection hj with hj; rw [← hj]; exact hbw)
          have hM6 := Lib.hid hM6
          go_roundw
          case rel => exact ⟨0 + 1, by omega, by first | rfl | go_num, by rw [hst.out]; exact hM6.out, hb6⟩
          case measure => first | (simp [intOf]; done) | (simp [intOf]; omega)
        · obtain ⟨j, hj⟩ : ∃ j, k = j + 1 := ⟨k - 1, by omega⟩
          have l2 := Lib.hid (show j < S.length by have := l1.out; omega)
          obtain ⟨bd', e, _, g0, _⟩ := (hS.below hbr).snAt l2.out
          injection e with e
          subst e
          have hlt2 : nlt (at_ S j).nm (at_ S k).nm := by
            have := List.pairwise_iff_getElem.1 HRi.out j k l2.out l1.out (by omega)
            rw [at_eq l2.out, at_eq l1.out]; exact this
          have e1 : IntKind.i64.wrap ((k : Int) - 1) = (j : Int) := IntWalk.i64_in _ (by omega) |>.trans (by omega)
          have q1 : (0 : Int) ≤ (j : Int) := by omega
          have q2 : (j : Int) < (m : Int) := by omega
          have q3 : decide ((0 : Int) < (k : Int)) = true := by rw [decide_eq_true_iff]; omega
          have q4 : decide (0 < k) = true := by rw [decide_eq_true_iff]; omega
          have Hj := Lib.hid hj; clear hj
          obtain ⟨s, hs⟩ : ∃ s, at_ S k = s := ⟨_, rfl⟩
          obtain ⟨pv, hpv⟩ : ∃ pv, (at_ S j).nm = pv := ⟨_, rfl⟩
          rw [hs] at d0 d1 hs20 hsv hst hlt2
          rw [hpv] at g0 hlt2
          clear hs hpv
          have o1 : Op.bytesLess s.nm.toList pv.toList = false := by rw [nlt_bytes, decide_eq_false (nlt_asymm hlt2)]
          have o2 : (s.nm.toList == pv.toList) = false := by rw [beq_eq_false_iff_ne]; exact fun e => nlt_ne hlt2 (toList_eq e).symm
          have g0 : (wr.alloc (.cells #[.string s.nm, .int .i64 s.v] 119)).cell? (bd.add (j * 2)) = some (.string pv) := ((one_alloc wr _).cell (p := bd.add (j * 2)) (by rw [add_block]; omega)).trans g0
          clear hlt2
          have kg : Blk (wr.alloc (.cells #[.string s.nm, .int .i64 s.v] 119)) wr.heap.size 119 #[.string s.nm, .int .i64 s.v] := Blk.new _ _ _
          have y0 : (wr.alloc (.cells #[.string s.nm, .int .i64 s.v] 119)).cell? ⟨wr.heap.size, 0, none⟩ = some (.string s.nm) := kg.cell 0
          have hMA := hM.next (one_alloc wr (.cells #[.string s.nm, .int .i64 s.v] 119))
          have hbA := hbr.alloc hbs (.cells #[.string s.nm, .int .i64 s.v] 119)
          go_wp2_with fail
          go_quiet (fail)
          obtain ⟨we, hwe⟩ : ∃ we, (wr.alloc (.cells #[.string s.nm, .int .i64 s.v] 119)).drewN nq = we := ⟨_, rfl⟩
          have kg : Blk we wr.heap.size 119 #[.string s.nm, .int .i64 s.v] := by rw [← hwe]; exact kg.drewN _
          have hMe : MapAt we bm k (seenD (S.take k)) := by rw [← hwe]; exact hMA.next (below_drewN (Below.refl _ _) _)
          have hbe : Below w.heap.size w we := by rw [← hwe]; exact below_drewN hbA _
          rw [hwe]
          clear hwe y0 hMA hbA
          obtain ⟨gs, hgs⟩ : ∃ gs, wr.heap.size = gs := ⟨_, rfl⟩
          rw [hgs] at kg ⊢
          clear hgs
          have y0 : we.cell? ⟨gs, 0, none⟩ = some (.string s.nm) := kg.cell 0
          have y1 : we.cell? ⟨gs, 1, none⟩ = some (.int .i64 s.v) := kg.cell 1
          have hkey := keyOf_string_mk Try.underlying9 (s := s.nm) (by have := hs20.out; unfold maxLen; omega)
          have hWF : (Lit.int .i64 s.v).wf = true := WalkArith.wf_i64 (by have h1 := hsv.out.1; have h2 := hsv.out.2; omega)
          go_wp2_with (at_mapUpdate; refine wpList_mapUpdate_own _ rfl _ _ _ 145 rfl 9 2 lawStr Try.underlying145 _ bm k _ rfl hMe (by unfold maxLen; omega) _ _ _ rfl rfl hkey _ [] (plainElem_int Try.underlying2 hWF) ?_; intro w6 hM6 hgrow6)
          have hb6 : Below w.heap.size w w6 := hbe.grown hgrow6 hbe.size (fun j hj => by injection hj with hj; rw [← hj]; exact hbw)
          have hM6 := Lib.hid hM6
          go_roundw
          case rel => exact ⟨k + 1, by omega, by first | rfl | go_num, by rw [hst.out]; exact hM6.out, hb6⟩
          case measure => first | (simp [intOf]; done) | (simp [intOf]; omega)
      · obtain rfl : k = m := by omega
        rw [List.take_of_length_le (by rw [Hm.out]; exact Nat.le_refl _)] at hM
        have hM := Lib.hid hM
        go_wp2_with fail
        obtain ⟨W0, hW0⟩ : ∃ W0, W0 = wr := ⟨_, rfl⟩
        rw [← hW0] at hM hbr hbs ⊢
        clear hW0
        go_loopw [10, 52] (fun v i wr => ∃ (q : Nat) (o' : List ClE) (O : Option Addr) (e : Nat), q ≤ n ∧ i = .int .i64 (q : Nat) ∧ v = .slice O o'.length e ∧ o'.length ≤ q ∧ Hid (o'.map ClE.x = ((L.take q).map ClE.x).filter (keepS S)) ∧ wr.ownsRow w.heap.size 34 4 (.slice O o'.length e) o'.length (clCs o') ∧ Hid (RowsOwn wr w.heap.size o') ∧ Hid (MapAt wr bm k (seenD S)) ∧ Below w.heap.size w wr) (fun _ i _ => n + 5 - (intOf i).toNat)
        case atStart => exact ⟨0, [], none, 0, by omega, rfl, rfl, by simp, Lib.hid rfl, ⟨rfl, .inl ⟨rfl, rfl⟩⟩, Lib.hid (RowsOwn.nil _ _), hM, hbr⟩
        case round =>
          clear hM hbr hbs
          obtain ⟨q, o', O, e, hq, rfl, rfl, hoq, ho, hown, hrw, hM, hbr⟩ := hrel
          have hbs := hbr.size
          by_cases hlt : (q : Int) < (n : Int)
          · have l1 := Lib.hid (show q < L.length by rw [HL.out.1]; omega)
            obtain ⟨ad, rfl, had, c0, c1, c2, c3⟩ := (HL.out.next hbr).2.2.2.1.clAt l1.out
            have hpo := Lib.hid ((hF.out _ (at_mem l1.out)).1.next hbr)
            have hp20 := Lib.hid (hF.out _ (at_mem l1.out)).2
            have hpn := Lib.hid (hnm.out _ (at_mem l1.out))
            have hst := Lib.hid (filter_step l1.out (keepS S))
            obtain ⟨p, hp⟩ : ∃ p, at_ L q = p := ⟨_, rfl⟩
            rw [hp] at c0 c1 c2 c3 hst hpo hp20 hpn
            clear hp
            obtain ⟨hh, hc⟩ := seenD_look HRi.out p.nm
            have kc : Blk (wr.alloc (.cells #[.int .i64 p.v, .int .i64 p.s, .string p.nm, .slice p.t.A p.t.l.length p.t.c] 34)) wr.heap.size 34 #[.int .i64 p.v, .int .i64 p.s, .string p.nm, .slice p.t.A p.t.l.length p.t.c] := Blk.new _ _ _
            have y0 : (wr.alloc (.cells #[.int .i64 p.v, .int .i64 p.s, .string p.nm, .slice p.t.A p.t.l.length p.t.c] 34)).cell? ⟨wr.heap.size, 0, none⟩ = some (.int .i64 p.v) := kc.cell 0
            have y2 : (wr.alloc (.cells #[.int .i64 p.v, .int .i64 p.s, .string p.nm, .slice p.t.A p.t.l.length p.t.c] 34)).cell? ⟨wr.heap.size, 2, none⟩ = some (.string p.nm) := kc.cell 2
            have y3 : (wr.alloc (.cells #[.int .i64 p.v, .int .i64 p.s, .string p.nm, .slice p.t.A p.t.l.length p.t.c] 34)).cell? ⟨wr.heap.size, 3, none⟩ = some (.slice p.t.A p.t.l.length p.t.c) := kc.cell 3
            have hnl := Lib.hid (rk_lt hown)
            have hbc := one_alloc wr (.cells #[.int .i64 p.v, .int .i64 p.s, .string p.nm, .slice p.t.A p.t.l.length p.t.c] 34)
            have hownA := hown.alloc (.cells #[.int .i64 p.v, .int .i64 p.s, .string p.nm, .slice p.t.A p.t.l.length p.t.c] 34)
            have hrwA := Lib.hid (hrw.out.alloc (.cells #[.int .i64 p.v, .int .i64 p.s, .string p.nm, .slice p.t.A p.t.l.length p.t.c] 34))
            have hMA : (wr.alloc (.cells #[.int .i64 p.v, .int .i64 p.s, .string p.nm, .slice p.t.A p.t.l.length p.t.c] 34)).ownsMap Try.prog 9 (plainElem Try.prog 2) bm k (seenD S) := World.ownsMap.alloc hM.out (.cells #[.int .i64 p.v, .int .i64 p.s, .string p.nm, .slice p.t.A p.t.l.length p.t.c] 34)
            have hMA := Lib.hid hMA
            have hbA := hbr.alloc hbs (.cells #[.int .i64 p.v, .int .i64 p.s, .string p.nm, .slice p.t.A p.t.l.length p.t.c] 34)
            have hpoA := Lib.hid (hpo.out.next hbc)
            have hkey := Lib.hid (keyOf_string_mk Try.underlying9 (s := p.nm) (by have := hpn.out; unfold maxLen; omega))
            rcases hlk : lookS S p.nm with _ | v0
            · rw [hlk] at hh
              have hkp := Lib.hid (show keepS S p.x = true by unfold keepS; rw [show p.x.nm = p.nm from rfl, hlk])
              have hh : Maps.has (seenD S) (.string p.nm.data.toList) = false := hh
              clear hlk hc
              go_wp2_with (at_lookup; refine wpList_lookup_own_ok_int _ rfl _ _ 145 rfl 9 2 .i64 lawStr Try.underlying145 Try.underlying2 (zeroI _) bm k _ rfl hMA.out _ _ rfl hkey.out ?_; intro c hat hwc; clear hat hwc)
              refine (cloneU64_any p.t.A p.t.l.length p.t.c (u64s p.t.l) (by rw [u64s_len, Nat.mul_one]) (u64s_one _) (fun e => by have := hpoA.out.2.2.1 e; have := hpoA.out.1; omega) (by have := hp20.out; omega) _ (by exact hpoA.out.2.2.2)).mono ?_
              rintro e3 w3 ⟨v3, rfl, A3, c3', rfl, ho3, hb3⟩
              obtain ⟨g, hg⟩ : ∃ g, wr.heap.size = g := ⟨_, rfl⟩
              have hnl' : ∀ j, (Value.slice O o'.length e).ownBlock = some j → j < g := by rw [← hg]; exact hnl.out
              have hgw : w.heap.size ≤ g := by rw [← hg]; exact hbs
              have kc3 := kc.next hb3
              rw [hg] at kc3 ⊢
              have hO3 := own_less ho3 (show w.heap.size ≤ _ from hbA.size)
              have hown3 := own_next hownA hb3
              have hrw3 := Lib.hid (hrwA.out.next hb3)
              have hM3 : MapAt w3 bm k (seenD S) := MapAt.next hMA.out hb3
              have hb03 := bnext hbA hb3
              have hbmg : bm < g := by rw [← hg]; exact MapAt.lt hM.out
              clear ho3 y0 y2 y3 hb3 kc hg
              have z0 : w3.cell? ⟨g, 0, none⟩ = some (.int .i64 p.v) := kc3.cell 0
              have z1 : w3.cell? ⟨g, 1, none⟩ = some (.int .i64 p.s) := kc3.cell 1
              have z2 : w3.cell? ⟨g, 2, none⟩ = some (.string p.nm) := kc3.cell 2
              have z3 : w3.cell? ⟨g, 3, none⟩ = some (.slice p.t.A p.t.l.length p.t.c) := kc3.cell 3
              have f3 := kc3.frozen 3
              obtain ⟨w4, hw4⟩ : ∃ w4, w3.setCell ⟨g, 3, none⟩ (.slice A3 p.t.l.length c3') = w4 := ⟨_, rfl⟩
              have kc4 : Blk w4 g 34 #[.int .i64 p.v, .int .i64 p.s, .string p.nm, .slice A3 p.t.l.length c3'] := by
                rw [← hw4]
                have := kc3.set 3 (.slice A3 p.t.l.length c3')
                simpa using this
              have hon : Only g w3 w4 := by rw [← hw4]; exact (Only.refl g w3).set 3 _
              have hrw4 := Lib.hid (show RowsOwn w4 w.heap.size o' from fun x hx => rk_grown (hrw3.out x hx) hon (fun j hj h => rk_ne kc3 (hrw3.out x hx) (by decide) (by rw [hj]; exact h.symm)))
              have hO4 := rk_grown hO3 hon (fun j hj h => rk_ne kc3 hO3 (by decide) (by rw [hj]; exact h.symm))
              have hown4 := rk_grown hown3 hon (fun j hj h => by injection h with h; have := hnl' j hj; omega)
              have hM4 : MapAt w4 bm k (seenD S) := World.ownsMap.kept hM3 hon (by intro h; injection h with h; omega)
              have hb04 : Below w.heap.size w w4 := hb03.trans (hon.below hb03.size hgw)
              have y0 : w4.cell? ⟨g, 0, none⟩ = some (.int .i64 p.v) := kc4.cell 0
              have y1 : w4.cell? ⟨g, 1, none⟩ = some (.int .i64 p.s) := kc4.cell 1
              have y2 : w4.cell? ⟨g, 2, none⟩ = some (.string p.nm) := kc4.cell 2
              have y3 : w4.cell? ⟨g, 3, none⟩ = some (.slice A3 p.t.l.length c3') := kc4.cell 3
              have hs4 : w.heap.size ≤ w4.heap.size := hb04.size
              have hM4 := Lib.hid hM4
              clear hO3 hown3 hrw3 hM3 hb03 hon hnl' kc3
              go_wp2_with (at_builtin; refine wpList_append1 rfl _ _ _ rfl elClm rfl hown4 rfl rfl rfl ?_ ?k1 ?k2 ?k3 ?k4; intro A5 e5 w5 hown5 hgrow5 hb5)
              case k1 => first | exact ⟨rfl, rfl, rfl, rfl⟩ | exact clm_one _ _ _ _ _ _
              case k2 => omega
              case k3 => unfold maxLen; omega
              case k4 => exact hs4
              have hR5 := Lib.hid (RowsOwn.snoc (e := ⟨p.v, p.s, p.nm, ⟨A3, c3', p.t.l⟩⟩) (hrw4.out.grown hown4 (by decide) hgrow5) (rk_grown hO4 hgrow5 (rk_two hO4 hown4 (by decide))))
              have hM5 := Lib.hid (show MapAt w5 bm k (seenD S) from World.ownsMap.kept hM4.out hgrow5 (MapAt.ne hM4.out hown4))
              have Hown5 := Lib.hid hown5
              have hb05 := hb04.trans hb5
              clear hown5 hgrow5
              go_roundw
              case rel => exact ⟨q + 1, o' ++ [⟨p.v, p.s, p.nm, ⟨A3, c3', p.t.l⟩⟩], A5, e5, by omega, by go_num, slice_eqC (by simp), by simp; omega, Lib.hid (by rw [hst.out, hkp.out, if_pos rfl, List.map_append, ho.out]; rfl), by rw [List.length_append, clCs_app1]; exact Hown5.out, hR5, hM5, hb05⟩
              case measure => simp [intOf]; omega
            · rw [hlk] at hh hc
              have hh : Maps.has (seenD S) (.string p.nm.data.toList) = true := hh
              have hcv : ∀ c : Int, (seenD S).atKey (.string p.nm.data.toList) (.lit (.int .i64 0)) = .lit (.int .i64 c) → c = v0 := fun c h => by
                have h2 := hc.symm.trans h
                injection h2 with h2
                injection h2 with _ h2
                exact h2.symm
              have Hcv := Lib.hid hcv
              clear hc hcv
              by_cases hle : v0 ≤ p.v
              · have hkp := Lib.hid (show keepS S p.x = true by unfold keepS; rw [show p.x.nm = p.nm from rfl, hlk]; exact decide_eq_true hle)
                clear hlk
                go_wp2_with (at_lookup; refine wpList_lookup_own_ok_int _ rfl _ _ 145 rfl 9 2 .i64 lawStr Try.underlying145 Try.underlying2 (zeroI _) bm k _ rfl hMA.out _ _ rfl hkey.out ?_; intro c hat hwc; obtain rfl := Hcv.out c hat; clear hat hwc)
                refine (cloneU64_any p.t.A p.t.l.length p.t.c (u64s p.t.l) (by rw [u64s_len, Nat.mul_one]) (u64s_one _) (fun e => by have := hpoA.out.2.2.1 e; have := hpoA.out.1; omega) (by have := hp20.out; omega) _ (by exact hpoA.out.2.2.2)).mono ?_
                rintro e3 w3 ⟨v3, rfl, A3, c3', rfl, ho3, hb3⟩
                obtain ⟨g, hg⟩ : ∃ g, wr.heap.size = g := ⟨_, rfl⟩
                have hnl' : ∀ j, (Value.slice O o'.length e).ownBlock = some j → j < g := by rw [← hg]; exact hnl.out
                have hgw : w.heap.size ≤ g := by rw [← hg]; exact hbs
                have kc3 := kc.next hb3
                rw [hg] at kc3 ⊢
                have hO3 := own_less ho3 (show w.heap.size ≤ _ from hbA.size)
                have hown3 := own_next hownA hb3
                have hrw3 := Lib.hid (hrwA.out.next hb3)
                have hM3 : MapAt w3 bm k (seenD S) := MapAt.next hMA.out hb3
                have hb03 := bnext hbA hb3
                have hbmg : bm < g := by rw [← hg]; exact MapAt.lt hM.out
                clear ho3 y0 y2 y3 hb3 kc hg
                have z0 : w3.cell? ⟨g, 0, none⟩ = some (.int .i64 p.v) := kc3.cell 0
                have z1 : w3.cell? ⟨g, 1, none⟩ = some (.int .i64 p.s) := kc3.cell 1
                have z2 : w3.cell? ⟨g, 2, none⟩ = some (.string p.nm) := kc3.cell 2
                have z3 : w3.cell? ⟨g, 3, none⟩ = some (.slice p.t.A p.t.l.length p.t.c) := kc3.cell 3
                have f3 := kc3.frozen 3
                obtain ⟨w4, hw4⟩ : ∃ w4, w3.setCell ⟨g, 3, none⟩ (.slice A3 p.t.l.length c3') = w4 := ⟨_, rfl⟩
                have kc4 : Blk w4 g 34 #[.int .i64 p.v, .int .i64 p.s, .string p.nm, .slice A3 p.t.l.length c3'] := by
                  rw [← hw4]
                  have := kc3.set 3 (.slice A3 p.t.l.length c3')
                  simpa using this
                have hon : Only g w3 w4 := by rw [← hw4]; exact (Only.refl g w3).set 3 _
                have hrw4 := Lib.hid (show RowsOwn w4 w.heap.size o' from fun x hx => rk_grown (hrw3.out x hx) hon (fun j hj h => rk_ne kc3 (hrw3.out x hx) (by decide) (by rw [hj]; exact h.symm)))
                have hO4 := rk_grown hO3 hon (fun j hj h => rk_ne kc3 hO3 (by decide) (by rw [hj]; exact h.symm))
                have hown4 := rk_grown hown3 hon (fun j hj h => by injection h with h; have := hnl' j hj; omega)
                have hM4 : MapAt w4 bm k (seenD S) := World.ownsMap.kept hM3 hon (by intro h; injection h with h; omega)
                have hb04 : Below w.heap.size w w4 := hb03.trans (hon.below hb03.size hgw)
                have y0 : w4.cell? ⟨g, 0, none⟩ = some (.int .i64 p.v) := kc4.cell 0
                have y1 : w4.cell? ⟨g, 1, none⟩ = some (.int .i64 p.s) := kc4.cell 1
                have y2 : w4.cell? ⟨g, 2, none⟩ = some (.string p.nm) := kc4.cell 2
                have y3 : w4.cell? ⟨g, 3, none⟩ = some (.slice A3 p.t.l.length c3') := kc4.cell 3
                have hs4 : w.heap.size ≤ w4.heap.size := hb04.size
                have hM4 := Lib.hid hM4
                clear hO3 hown3 hrw3 hM3 hb03 hon hnl' kc3
                go_wp2_with (at_builtin; refine wpList_append1 rfl _ _ _ rfl elClm rfl hown4 rfl rfl rfl ?_ ?k1 ?k2 ?k3 ?k4; intro A5 e5 w5 hown5 hgrow5 hb5)
                case k1 => first | exact ⟨rfl, rfl, rfl, rfl⟩ | exact clm_one _ _ _ _ _ _
                case k2 => omega
                case k3 => unfold maxLen; omega
                case k4 => exact hs4
                have hR5 := Lib.hid (RowsOwn.snoc (e := ⟨p.v, p.s, p.nm, ⟨A3, c3', p.t.l⟩⟩) (hrw4.out.grown hown4 (by decide) hgrow5) (rk_grown hO4 hgrow5 (rk_two hO4 hown4 (by decide))))
                have hM5 := Lib.hid (show MapAt w5 bm k (seenD S) from World.ownsMap.kept hM4.out hgrow5 (MapAt.ne hM4.out hown4))
                have Hown5 := Lib.hid hown5
                have hb05 := hb04.trans hb5
                clear hown5 hgrow5
                go_roundw
                case rel => exact ⟨q + 1, o' ++ [⟨p.v, p.s, p.nm, ⟨A3, c3', p.t.l⟩⟩], A5, e5, by omega, by go_num, slice_eqC (by simp), by simp; omega, Lib.hid (by rw [hst.out, hkp.out, if_pos rfl, List.map_append, ho.out]; rfl), by rw [List.length_append, clCs_app1]; exact Hown5.out, hR5, hM5, hb05⟩
                case measure => simp [intOf]; omega
              · have hkp := Lib.hid (show keepS S p.x = false by unfold keepS; rw [show p.x.nm = p.nm from rfl, hlk]; exact decide_eq_false hle)
                clear hlk
                go_wp2_with (at_lookup; refine wpList_lookup_own_ok_int _ rfl _ _ 145 rfl 9 2 .i64 lawStr Try.underlying145 Try.underlying2 (zeroI _) bm k _ rfl hMA.out _ _ rfl hkey.out ?_; intro c hat hwc; obtain rfl := Hcv.out c hat)
                go_roundw
                case rel => exact ⟨q + 1, o', O, e, by omega, by go_num, rfl, by omega, Lib.hid (by rw [hst.out, hkp.out, ho.out]; simp), hownA, hrwA, Lib.hid hMA.out, hbA⟩
                case measure => simp [intOf]; omega
          · obtain rfl : q = n := by omega
            have hres : o'.map ClE.x = r.1 := by
              rw [ho.out, List.take_of_length_le (by rw [HL.out.1]; exact Nat.le_refl _), Ha.out, HR.out]
            have hres := Lib.hid hres
            have h0 := Lib.hid (show r.2 = 0 by rw [HR.out])
            go_wp2_with fail
            go_ret2
            refine RV.mk ⟨o', O, e, ?_, hres.out, hown, hrw.out, hbr⟩
            show Value.tuple #[.slice O o'.length e, .int .i64 0] = _
            rw [h0.out]
  · have HR := Lib.hid (show r = ([], z) by rw [← hr]; unfold deltaN; rw [if_pos (by rw [hz]; exact hz0), hz])
    have f1 : (z != 0) = true := by rw [bne_iff_ne]; exact hz0
    have HL := Lib.hid hL; clear hL
    have Hck := Lib.hid hck
    clear hr ha hz hck hm hsz hv
    go_enter Try.func87, Try.ntmps87
    go_wp2_with fail
    refine (Hck.out _ HL.out.2.2.2.1 HL.out.2.2.2.2).mono ?_
    rintro e w1 ⟨rfl, hb1⟩
    go_wp2_with fail
    go_ret2
    rw [HR.out]
    exact RV.mk ⟨[], none, 0, rfl, rfl, ⟨rfl, .inl ⟨rfl, rfl⟩⟩, RowsOwn.nil _ _, hb1⟩
end Go.Proofs.Ytokilodekbjpnaa
