/- Texts of the proof of HouseAcks, joined (by merge.py). Conditions: each theorem's own hypotheses. -/
import Derived.Test.YtihjgbhnlejhfaaGreatDoorHouseAcksP11
import Derived.Test.YtihjgbhnlejhfaaGreatDoorHouseAcksP19
import Derived.Deep.QuietTactic
import Derived.Deep.CutRange
namespace Go.Proofs.YtihjgbhnlejhfaaGreatDoor
open Go.RowKit

/-- Join's error -/
def joinE (l : List Nod) (x : Nod) : Int := if chkR l ≠ 0 then chkR l else if chkR [x] ≠ 0 then chkR [x] else if l.any (fun y => decide (y.nm = x.nm)) = true then 8 else if l.length = 20 then 2 else 0
/-- what Join answers -/
def JoinRP (L : List NodE) (x : NodE) (w : World) (v : Value) (w' : World) : Prop :=
  ((∃ e : Int, e ≠ 0 ∧ in64 e ∧ v = .tuple #[.slice none 0 0, .int .i64 e] ∧ e = joinE (L.map NodE.x) x.x) ∨
    ∃ i A c L', RgOk (L.map NodE.x) ∧ NdFit x.x ∧ PlaceR (L.map NodE.x) x.nm i ∧ (∀ y ∈ L.map NodE.x, y.nm ≠ x.nm) ∧ L.length < 20 ∧ v = .tuple #[.slice A (L.length + 1) c, .int .i64 0] ∧ L'.map NodE.x = insR (L.map NodE.x) x.x i ∧
      w'.ownsRow w.heap.size 36 2 (.slice A (L.length + 1) c) (L.length + 1) (nodCs L') ∧ ∀ e ∈ L', TkOwn w' w.heap.size e) ∧ Below w.heap.size w w'
theorem one_allocJ (w : World) (o : Obj) : Below w.heap.size w (w.alloc o) := (Below.refl _ _).alloc (Nat.le_refl _) _
theorem below_allocJ {a w : World} {o : Obj} (h : Below a.heap.size a w) : Below a.heap.size a (w.alloc o) := h.alloc h.size o
theorem at_mapN {L : List NodE} {q : Nat} (h : q < L.length) : at_ (L.map NodE.x) q = (at_ L q).x := by
  rw [at_eq (by rw [List.length_map]; exact h), at_eq h, List.getElem_map]
theorem insE {L : List NodE} {x : NodE} {i : Nat} : (L.take i ++ x :: L.drop i).map NodE.x = insR (L.map NodE.x) x.x i := by
  unfold insR; rw [List.map_append, List.map_cons, List.map_take, List.map_drop]

theorem Blk.newJ (w : World) (t : TypeId) (cs : Array Value) (g : Nat) (h : g = w.heap.size) : Blk (w.alloc (.cells cs t)) g t cs := h ▸ Blk.new w t cs
theorem pre_ne {W w6 : World} {g : Nat} {t e : TypeId} {cs : Array Value} {size n : Nat} {v : Value} {xs : List Value} (k : Blk W g t cs) (ho : w6.ownsRow W.heap.size e size v n xs) : v.ownBlock ≠ some g := fun h => by
  have h1 := (ho.lt g h).1
  have h2 := k.lt
  omega
theorem own_allocJ {w : World} {base size n : Nat} {e : TypeId} {v : Value} {xs : List Value} {o : Obj} (h : w.ownsRow base e size v n xs) : (w.alloc o).ownsRow base e size v n xs := h.alloc o

set_option maxRecDepth 1000000 in
set_option maxHeartbeats 8000000 in
theorem join_any (A : Option Addr) (n c : Nat) (L : List NodE) (hn : L.length = n) (hA : A = none → c = 0) (hnc : n ≤ c) (hl : n ≤ maxLen) (nm : ByteArray) (T : Option Addr) (tc : Nat) (tl : List Nat) (w : World) (h : Has w w.heap.size A (nodCs L)) (hL : ∀ e ∈ L, NodOk w e) (hx : NodOk w ⟨nm, ⟨T, tc, tl⟩⟩) :
    Calls Tryz.prog 21 #[.slice A n c, .agg #[.string nm, .slice T tl.length tc]] w (RV (JoinRP L ⟨nm, ⟨T, tc, tl⟩⟩ w)) := by
  obtain ⟨p, hp⟩ : ∃ p, tl.length = p := ⟨_, rfl⟩
  obtain ⟨b, hb⟩ : ∃ b, w.heap.size = b := ⟨_, rfl⟩
  obtain ⟨w1, hw1⟩ : ∃ w1, ((w.alloc (.cells #[.string nm, .slice T p tc] 36)).alloc (.cells #[.string nm, .slice T p tc] 36)).alloc (.cells #[.slice A n c, .slice (some ⟨b + 1, 0, none⟩) 1 1] 22) = w1 := ⟨_, rfl⟩
  have hb1 : Below w.heap.size w w1 := by rw [← hw1]; exact bnext (bnext (one_allocJ _ _) (one_allocJ _ _)) (one_allocJ _ _)
  have kX : Blk w1 b 36 #[.string nm, .slice T p tc] := by rw [← hw1, ← hb]; exact ((Blk.new _ _ _).alloc _).alloc _
  have kY : Blk w1 (b + 1) 36 #[.string nm, .slice T p tc] := by
    rw [← hw1]
    have h1 := (Blk.new (w.alloc (.cells #[.string nm, .slice T p tc] 36)) 36 #[.string nm, .slice T p tc]).alloc (.cells #[.slice A n c, .slice (some ⟨b + 1, 0, none⟩) 1 1] 22)
    rw [World.size_alloc, hb] at h1
    exact h1
  have kZ : Blk w1 (b + 2) 22 #[.slice A n c, .slice (some ⟨b + 1, 0, none⟩) 1 1] := by
    rw [← hw1]
    have h1 := Blk.new ((w.alloc (.cells #[.string nm, .slice T p tc] 36)).alloc (.cells #[.string nm, .slice T p tc] 36)) 22 #[.slice A n c, .slice (some ⟨b + 1, 0, none⟩) 1 1]
    rw [World.size_alloc, World.size_alloc, hb] at h1
    exact h1
  have hY : Has w1 w1.heap.size (some ⟨b + 1, 0, none⟩) (nodCs [(⟨nm, ⟨T, tc, tl⟩⟩ : NodE)]) := fun _ => by
    refine ⟨_, rfl, kY.lt, fun j u hu => ?_⟩
    have hadd : (⟨b + 1, 0, none⟩ : Addr).add j = ⟨b + 1, j, none⟩ := by unfold Addr.add; split <;> simp_all
    rw [hadd, kY.cell j]
    have e : nodCs [(⟨nm, ⟨T, tc, tl⟩⟩ : NodE)] = (#[Value.string nm, .slice T p tc] : Array Value).toList := by rw [← hp]; rfl
    rw [e] at hu
    simpa using hu
  have HC := Lib.hid (fun (w' : World) (hb' : Below w1.heap.size w1 w') => rcheckN_any A n c L hn hl w' (h.next (bnext hb1 hb')) (fun e he => (hL e he).next (bnext hb1 hb')))
  have HCx := Lib.hid (fun (w' : World) (hb' : Below w1.heap.size w1 w') => rcheckN_any (some ⟨b + 1, 0, none⟩) 1 1 [(⟨nm, ⟨T, tc, tl⟩⟩ : NodE)] rfl (by unfold maxLen; omega) w' (hY.next hb') (fun e he => by rw [List.mem_singleton.1 he]; exact hx.next (bnext hb1 hb')))
  obtain ⟨z, hz⟩ : ∃ z, chkR (L.map NodE.x) = z := ⟨_, rfl⟩
  obtain ⟨y, hy⟩ : ∃ y, chkR ([(⟨nm, ⟨T, tc, tl⟩⟩ : NodE)].map NodE.x) = y := ⟨_, rfl⟩
  rw [hz] at HC
  rw [hy] at HCx
  have HZ := Lib.hid hz
  have HY := Lib.hid hy
  have Hn := Lib.hid hn
  have Hp := Lib.hid hp
  have Hh := Lib.hid h
  have HL := Lib.hid hL
  have HX := Lib.hid hx
  have HF := Lib.hid (fun (w' : World) (hb' : Below w.heap.size w w') => find_any A n c L hn hl nm w' (h.next hb'))
  have HCl := Lib.hid (fun (h40 : n ≤ 20) (w' : World) (hb' : Below w.heap.size w w') => cloneNd_any A n c (nodCs L) (by rw [nodCs_len, hn]) (nodCs_one L) (noA hA hnc) (by omega) w' (h.next hb'))
  rw [hp]
  clear hz hy hn hp h hL hx hY
  go_enter Tryz.func21, Tryz.ntmps21
  go_wp2_with fail
  try simp only [hb]
  try rw [hw1]
  clear hw1
  go_loopw [15] (fun i wr => ∃ j : Nat, j ≤ 2 ∧ i = .int .i64 (j : Nat) ∧ Hid ((0 < j → z = 0) ∧ (1 < j → y = 0)) ∧ Below w1.heap.size w1 wr) (fun i _ => 2 - (intOf i).toNat)
  case atStart => exact ⟨0, by omega, rfl, Lib.hid ⟨fun h => by omega, fun h => by omega⟩, Below.refl _ _⟩
  case round =>
    obtain ⟨j, hj, rfl, hzy, hbr⟩ := hrel
    have kZr := kZ.next hbr
    rcases (show j = 0 ∨ j = 1 ∨ j = 2 by omega) with rfl | rfl | rfl
    · have g0 : wr.cell? ⟨b + 2, 0, none⟩ = some (.slice A n c) := kZr.cell 0
      by_cases hz0 : z = 0
      · subst hz0
        go_wp2_with fail
        refine (HC.out _ hbr).mono ?_
        rintro e w2 ⟨rfl, hb2⟩
        go_wp2_with fail
        go_roundw
        case rel => exact ⟨1, by omega, by first | rfl | go_num, Lib.hid ⟨fun _ => by trivial, fun h => by omega⟩, bnext hbr hb2⟩
        case measure => simp [intOf]
      · have f1 : (z != 0) = true := by rw [bne_iff_ne]; exact hz0
        have HF5 := Lib.hid (fun (w' : World) (hb' : Below w.heap.size w w') => show JoinRP L ⟨nm, ⟨T, tc, tl⟩⟩ w (.tuple #[.slice none 0 0, .int .i64 z]) w' from ⟨.inl ⟨z, hz0, by rw [← HZ.out]; exact chkR_in _, rfl, by unfold joinE; rw [HZ.out, if_pos hz0]⟩, hb'⟩)
        clear hz0
        go_wp2_with fail
        refine (HC.out _ hbr).mono ?_
        rintro e w2 ⟨rfl, hb2⟩
        go_wp2_with fail
        go_ret2
        exact RV.mk (HF5.out _ (bnext hb1 (bnext hbr hb2)))
    · have g0 : wr.cell? ⟨b + 2, 1, none⟩ = some (.slice (some ⟨b + 1, 0, none⟩) 1 1) := kZr.cell 1
      by_cases hy0 : y = 0
      · have hz0 := hzy.out.1 (by omega)
        subst hy0 hz0
        go_wp2_with fail
        refine (HCx.out _ hbr).mono ?_
        rintro e w2 ⟨rfl, hb2⟩
        go_wp2_with fail
        go_roundw
        case rel => exact ⟨2, by omega, by first | rfl | go_num, Lib.hid ⟨fun _ => by trivial, fun _ => by trivial⟩, bnext hbr hb2⟩
        case measure => simp [intOf]
      · have f1 : (y != 0) = true := by rw [bne_iff_ne]; exact hy0
        have HF5 := Lib.hid (fun (w' : World) (hb' : Below w.heap.size w w') => show JoinRP L ⟨nm, ⟨T, tc, tl⟩⟩ w (.tuple #[.slice none 0 0, .int .i64 y]) w' from ⟨.inl ⟨y, hy0, by rw [← HY.out]; exact chkR_in _, rfl, by unfold joinE; rw [HZ.out, if_neg (by simpa using hzy.out.1 (by omega)), show chkR [(⟨nm, ⟨T, tc, tl⟩⟩ : NodE).x] = y from HY.out, if_pos hy0]⟩, hb'⟩)
        clear hy0
        go_wp2_with fail
        refine (HCx.out _ hbr).mono ?_
        rintro e w2 ⟨rfl, hb2⟩
        go_wp2_with fail
        go_ret2
        exact RV.mk (HF5.out _ (bnext hb1 (bnext hbr hb2)))
    · obtain ⟨hz0, hy0⟩ := hzy.out
      have hz0 := hz0 (by omega)
      have hy0 := hy0 (by omega)
      subst hz0 hy0
      rw [show ((2 : Nat) : Int) = 2 from rfl]
      have Hok := Lib.hid (chkR_iff.1 HZ.out)
      have Hfit := Lib.hid (show NdFit ⟨nm, tl⟩ from (chkR_iff.1 HY.out).2.1 _ (by simp [NodE.x]))
      have h20 : n ≤ 20 := by have := Hok.out.1; rw [List.length_map, Hn.out] at this; exact this
      have hb02 := bnext hb1 hbr
      have kX2 := kX.next hbr
      have x0 : wr.cell? ⟨b, 0, none⟩ = some (.string nm) := kX2.cell 0
      have HF2 := Lib.hid (HF.out _ hb02)
      clear kZr kZ kY HC HCx hzy hj kX
      go_wp2_with fail
      refine HF2.out.mono ?_
      rintro e9 w3 ⟨v, rfl, hf, hb3⟩
      have hb03 := bnext hb02 hb3
      have kX3 := kX2.next hb3
      clear x0 kX2 HF2 HF
      rcases hf with ⟨i, rfl, hi, hnm, hq⟩ | ⟨rfl, hq⟩
      · have hi0 : (0 : Int) ≤ (i : Int) := by omega
        have HF5 := Lib.hid (show JoinRP L ⟨nm, ⟨T, tc, tl⟩⟩ w (.tuple #[.slice none 0 0, .int .i64 8]) w3 from ⟨.inl ⟨8, by decide, ⟨by decide, by decide⟩, rfl, by unfold joinE; rw [HZ.out, if_neg (by simp), show chkR [(⟨nm, ⟨T, tc, tl⟩⟩ : NodE).x] = 0 from HY.out, if_neg (by simp), if_pos]; rw [List.any_eq_true]; exact ⟨(at_ L i).x, List.mem_map.2 ⟨_, at_mem (by omega), rfl⟩, decide_eq_true hnm⟩⟩, hb03⟩)
        clear hi hnm hq
        go_wp2_with fail
        go_ret2
        exact RV.mk HF5.out
      · have hm1 : ¬ (0 : Int) ≤ -1 := by decide
        have HQ := Lib.hid (show ∀ y ∈ L.map NodE.x, y.nm ≠ nm from fun y hy => by
          obtain ⟨e, he, rfl⟩ := List.mem_map.1 hy
          obtain ⟨q, hq', rfl⟩ := List.getElem_of_mem he
          have := hq q hq'
          rw [at_eq hq'] at this
          exact this)
        clear hq
        by_cases hn20 : n = 20
        · have HF5 := Lib.hid (show JoinRP L ⟨nm, ⟨T, tc, tl⟩⟩ w (.tuple #[.slice none 0 0, .int .i64 2]) w3 from ⟨.inl ⟨2, by decide, ⟨by decide, by decide⟩, rfl, by unfold joinE; rw [HZ.out, if_neg (by simp), show chkR [(⟨nm, ⟨T, tc, tl⟩⟩ : NodE).x] = 0 from HY.out, if_neg (by simp), if_neg, if_pos (by rw [List.length_map, Hn.out]; exact hn20)]; rw [List.any_eq_true]; rintro ⟨y, hy, e⟩; exact HQ.out y hy (of_decide_eq_true e)⟩, hb03⟩)
          subst hn20
          go_wp2_with fail
          go_ret2
          exact RV.mk HF5.out
        · have hnb : ((n : Int) == 20) = false := by rw [beq_eq_false_iff_ne]; omega
          have hn20' : ¬ (n : Int) = 20 := by omega
          go_wp2_with fail
          obtain ⟨W3, rfl⟩ : ∃ W3, W3 = w3 := ⟨_, rfl⟩
          have HCl3 := Lib.hid (HCl.out h20)
          clear HCl
          go_loopw [9] (fun iv wq => ∃ i : Nat, i ≤ n ∧ iv = .int .i64 (i : Nat) ∧ Hid (∀ q, q < i → nlt (at_ L q).nm nm) ∧ Drawn W3 wq) (fun iv _ => n + 5 - (intOf iv).toNat)
          case atStart => exact ⟨0, by omega, rfl, Lib.hid (fun q hq => by omega), Drawn.refl _⟩
          case round =>
            obtain ⟨i, hi, rfl, hq, nd, rfl⟩ := hrel
            have x0 : W3.cell? ⟨b, 0, none⟩ = some (.string nm) := kX3.cell 0
            have hi0 : (0 : Int) ≤ (i : Int) := by omega
            by_cases hlt : i < n
            · have hkL : i < L.length := by rw [Hn.out]; omega
              obtain ⟨ad, rfl, _, c0⟩ := (Hh.out.next hb03).at (nodCs_0 hkL)
              obtain ⟨a, ha⟩ : ∃ a, (at_ L i).nm = a := ⟨_, rfl⟩
              rw [ha] at c0
              have Ha := Lib.hid ha
              clear ha
              have d1 : decide ((i : Int) < (n : Int)) = true := decide_eq_true (by omega)
              have d2 : (i : Int) < (n : Int) := by omega
              by_cases hlt2 : nlt a nm
              · have b1 : Op.bytesLess a.toList nm.toList = true := by rw [nlt_bytes]; exact decide_eq_true hlt2
                have Hl2 := Lib.hid hlt2
                clear hlt2
                go_wp2_with fail
                go_quiet (fail)
                go_wp2_with fail
                go_roundw
                case rel => exact ⟨i + 1, by omega, by go_num, Lib.hid (fun q hq2 => by
                  rcases Nat.lt_or_ge q i with g | g
                  · exact hq.out q g
                  · obtain rfl : q = i := by omega
                    rw [Ha.out]; exact Hl2.out), _, rfl⟩
                case measure => simp [intOf]; omega
              · have b1 : Op.bytesLess a.toList nm.toList = false := by rw [nlt_bytes]; exact decide_eq_false hlt2
                have HP := Lib.hid (show PlaceR (L.map NodE.x) nm i from ⟨by rw [List.length_map]; omega, fun q hq2 => by rw [at_mapN (by omega)]; exact hq.out q hq2, fun h9 => by rw [at_mapN hkL]; show ¬ nlt (at_ L i).nm nm; rw [Ha.out]; exact hlt2⟩)
                clear hlt2
                go_wp2_with fail
                go_quiet (fail)
                go_wp2_with fail
                obtain ⟨W5, hW5⟩ : ∃ W5, (W3.drewN nd).drewN nq = W5 := ⟨_, rfl⟩
                have hb5 : Below W3.heap.size W3 W5 := by rw [← hW5]; exact below_drewN (below_drewN (Below.refl _ _) _) _
                rw [hW5]
                clear hW5
                have hb05 := bnext hb03 hb5
                have kX5 := kX3.next hb5
                clear kX3 hb5 x0
                have x0 : W5.cell? ⟨b, 0, none⟩ = some (.string nm) := kX5.cell 0
                have x1 : W5.cell? ⟨b, 1, none⟩ = some (.slice T p tc) := kX5.cell 1
                have hin : i ≤ n := by omega
                have n20 : n ≤ 20 := by omega
                go_region_held_law (fun w' => w'.cell? ⟨b, 0, none⟩ = some (.string nm) ∧ w'.cell? ⟨b, 1, none⟩ = some (.slice T p tc))
                  (first | (refine keepO2 (t := 36) ?_; (repeat' (first | with_reducible exact kg8 | with_reducible exact kg7 | with_reducible exact kgC | with_reducible exact kX5 | with_reducible refine Blk.drewO ?_ | with_reducible refine Blk.alloc ?_ _)); done) | (trace_state; fail))
                  (first
                    | (have hz := hownI
                       go_at_call 32
                       refine (ownN_any A7 (n + 1) c7 (L.take i ++ (⟨nm, ⟨T, tc, tl⟩⟩ : NodE) :: L.drop i) (by rw [List.length_append, List.length_cons, List.length_take, List.length_drop, Hn.out]; omega) (by omega) _ (by first | exact hHI | exact hHI.next (below_drewO (Below.refl _ _))) (by first | exact hOkI | exact fun e he => (hOkI e he).next (below_drewO (Below.refl _ _))) hsI).mono ?_
                       rintro e9 w8 ⟨v, rfl, A8, c8, L8, rfl, hx8, hown8, htk8, hb8⟩
                       have hl8 : (L.take i ++ (⟨nm, ⟨T, tc, tl⟩⟩ : NodE) :: L.drop i).length = n + 1 := by rw [List.length_append, List.length_cons, List.length_take, List.length_drop, Hn.out]; omega
                       rw [hl8] at hown8 ⊢
                       have hB8 : Below W5.heap.size W5 w8 := bnext (by (repeat' (first | with_reducible exact hB7 | with_reducible refine below_drewO ?_)); done) hb8
                       have kg8 := kX5.next hB8)
                    | (have hz := hownC
                       go_at_call 46
                       first
                         | (have hz2 := kV
                            have q4 : World.ownsRow w6 bC 36 2 (.slice A6 n c6) n (nodCs L) := hownC
                            have q5 : bC ≤ w6.heap.size := hbC2
                            refine (insN_any (base := bC) (vc := 1) (i := i) (vb := W5.heap.size) #[.string nm, .slice T p tc] _ q4 q5 hin rfl (by intro u hu; simp at hu; rcases hu with rfl | rfl <;> rfl) (nodCs_one L) kV hneV (by omega)).mono ?_
                            rintro e9 w7 ⟨v, rfl, hI, hgrI, _⟩
                            obtain ⟨A7, c7, rfl, _⟩ := own_form hI
                            have hB7 : Below W5.heap.size W5 w7 := Below.trans hB6 ((grown_below q4 hgrI q5).mono hbC1))
                         | (have q4 : World.ownsRow (w6.alloc (.cells #[.string nm, .slice T p tc] 36)) bC 36 2 (.slice A6 n c6) n (nodCs L) := own_allocJ hownC
                            have q5 : bC ≤ (w6.alloc (.cells #[.string nm, .slice T p tc] 36)).heap.size := Nat.le_trans hbC2 (one_allocJ _ _).size
                            refine (insN_any (base := bC) (vc := 1) (i := i) (vb := w6.heap.size) #[.string nm, .slice T p tc] _ q4 q5 hin rfl (by intro u hu; simp at hu; rcases hu with rfl | rfl <;> rfl) (nodCs_one L) (Blk.new _ _ _) hneW (by omega)).mono ?_
                            rintro e9 w7 ⟨v, rfl, hI, hgrI, _⟩
                            obtain ⟨A7, c7, rfl, _⟩ := own_form hI
                            have hB7 : Below W5.heap.size W5 w7 := Below.trans (below_allocJ hB6) ((grown_below q4 hgrI q5).mono hbC1))
                       have kg7 := kX5.next hB7
                       have hb07 := bnext hb05 hB7
                       have eys : (nodCs L).take (i * 2) ++ ((#[.string nm, .slice T p tc] : Array Value).toList ++ (nodCs L).drop (i * 2)) = nodCs (L.take i ++ (⟨nm, ⟨T, tc, tl⟩⟩ : NodE) :: L.drop i) := by
                         rw [nodCs_take, nodCs_drop, nodCs_app, show nodCs ((⟨nm, ⟨T, tc, tl⟩⟩ : NodE) :: L.drop i) = nodC ⟨nm, ⟨T, tc, tl⟩⟩ ++ nodCs (L.drop i) from rfl]
                         have e7 : ((#[.string nm, .slice T p tc] : Array Value).toList : List Value) = nodC ⟨nm, ⟨T, tc, tl⟩⟩ := by rw [← Hp.out]; rfl
                         rw [e7]
                       have hownI := hI
                       rw [eys] at hownI
                       have hHI : Has w7 w7.heap.size A7 (nodCs (L.take i ++ (⟨nm, ⟨T, tc, tl⟩⟩ : NodE) :: L.drop i)) := Has.of_own hownI
                       have hOkI : ∀ e ∈ L.take i ++ (⟨nm, ⟨T, tc, tl⟩⟩ : NodE) :: L.drop i, NodOk w7 e := fun e he => by
                         rcases List.mem_append.1 he with he | he
                         · exact (HL.out e (List.mem_of_mem_take he)).next hb07
                         · rcases List.mem_cons.1 he with rfl | he
                           · exact HX.out.next hb07
                           · exact (HL.out e (List.mem_of_mem_drop he)).next hb07
                       have hsI : ∀ e ∈ L.take i ++ (⟨nm, ⟨T, tc, tl⟩⟩ : NodE) :: L.drop i, e.t.l.length ≤ 1000 := fun e he => by
                         have hall : ∀ e ∈ L, e.t.l.length ≤ 1000 := fun e he => by
                           have h2 : e.t.l.length ≤ 20 := (Hok.out.2.1 e.x (List.mem_map.2 ⟨e, he, rfl⟩)).2.2.1
                           omega
                         rcases List.mem_append.1 he with he | he
                         · exact hall e (List.mem_of_mem_take he)
                         · rcases List.mem_cons.1 he with rfl | he
                           · have h2 : tl.length ≤ 20 := Hfit.out.2.2.1
                             show tl.length ≤ 1000
                             omega
                           · exact hall e (List.mem_of_mem_drop he))
                    | (go_at_call 47
                       refine (HCl3.out _ (bnext hb05 (by (repeat' (first | with_reducible exact Below.refl _ _ | with_reducible refine below_allocJ ?_ | with_reducible refine below_drewO ?_)); done))).mono ?_
                       rintro e9 w6 ⟨v, rfl, A6, c6, rfl, hownC, hbC⟩
                       have hB6 : Below W5.heap.size W5 w6 := bnext (by (repeat' (first | with_reducible exact Below.refl _ _ | with_reducible refine below_allocJ ?_ | with_reducible refine below_drewO ?_)); done) hbC
                       have kgC := kX5.next hB6
                       first
                         | (have kV : Blk w6 W5.heap.size 36 #[.string nm, .slice T p tc] := by refine Blk.next ?_ hbC; (repeat' (first | (with_reducible refine Blk.newJ _ _ _ _ ?_; rfl) | with_reducible refine Blk.drewO ?_)); done
                            have hneV : (Value.slice A6 n c6).ownBlock ≠ some W5.heap.size := pre_ne (t := 36) (cs := #[.string nm, .slice T p tc]) (by (repeat' (first | (with_reducible refine Blk.newJ _ _ _ _ ?_; rfl) | with_reducible refine Blk.drewO ?_)); done) hownC)
                         | skip
                       have hneW : (Value.slice A6 n c6).ownBlock ≠ some w6.heap.size := fun h => by have := (hownC.lt _ h).2; omega
                       obtain ⟨bC, hbC1, hbC2, hownC⟩ : ∃ bC, W5.heap.size ≤ bC ∧ bC ≤ w6.heap.size ∧ w6.ownsRow bC 36 2 (.slice A6 n c6) n (nodCs L) := ⟨_, Below.size (B := W5.heap.size) (w := W5) (by (repeat' (first | with_reducible exact Below.refl _ _ | with_reducible refine below_allocJ ?_ | with_reducible refine below_drewO ?_)); done), hbC.size, hownC⟩))
                all_goals
                  have HF8 := Lib.hid (show JoinRP L ⟨nm, ⟨T, tc, tl⟩⟩ w (.tuple #[.slice A8 (n + 1) c8, .int .i64 0]) w8 from by
                    have hsz : w.heap.size ≤ w7.heap.size := hb07.size
                    refine ⟨.inr ⟨i, A8, c8, L8, Hok.out, Hfit.out, HP.out, HQ.out, by rw [Hn.out]; omega, by rw [Hn.out], by rw [hx8, insE], by rw [Hn.out]; exact own_less hown8 hsz, fun e he => (htk8 e he).less hsz⟩, bnext hb05 hB8⟩)
                  clear hown8 htk8 hx8 hl8
                  go_wp2_with fail
                  go_ret2
                  exact RV.mk HF8.out
            · obtain rfl : i = n := by omega
              have d1 : decide ((i : Int) < (i : Int)) = false := decide_eq_false (by omega)
              have HP := Lib.hid (show PlaceR (L.map NodE.x) nm i from ⟨by rw [List.length_map, Hn.out]; omega, fun q hq2 => by rw [at_mapN (by rw [Hn.out]; omega)]; exact hq.out q hq2, fun h9 => by rw [List.length_map, Hn.out] at h9; omega⟩)
              go_wp2_with fail
              go_quiet (fail)
              go_wp2_with fail
              obtain ⟨W5, hW5⟩ : ∃ W5, (W3.drewN nd).drewN nq = W5 := ⟨_, rfl⟩
              have hb5 : Below W3.heap.size W3 W5 := by rw [← hW5]; exact below_drewN (below_drewN (Below.refl _ _) _) _
              rw [hW5]
              clear hW5
              have hb05 := bnext hb03 hb5
              have kX5 := kX3.next hb5
              clear kX3 hb5 x0
              have x0 : W5.cell? ⟨b, 0, none⟩ = some (.string nm) := kX5.cell 0
              have x1 : W5.cell? ⟨b, 1, none⟩ = some (.slice T p tc) := kX5.cell 1
              have hin : i ≤ i := by omega
              have n20 : i ≤ 20 := by omega
              go_region_held_law (fun w' => w'.cell? ⟨b, 0, none⟩ = some (.string nm) ∧ w'.cell? ⟨b, 1, none⟩ = some (.slice T p tc))
                (first | (refine keepO2 (t := 36) ?_; (repeat' (first | with_reducible exact kg8 | with_reducible exact kg7 | with_reducible exact kgC | with_reducible exact kX5 | with_reducible refine Blk.drewO ?_ | with_reducible refine Blk.alloc ?_ _)); done) | (trace_state; fail))
                (first
                  | (have hz := hownI
                     go_at_call 32
                     refine (ownN_any A7 (i + 1) c7 (L.take i ++ (⟨nm, ⟨T, tc, tl⟩⟩ : NodE) :: L.drop i) (by rw [List.length_append, List.length_cons, List.length_take, List.length_drop, Hn.out]; omega) (by omega) _ (by first | exact hHI | exact hHI.next (below_drewO (Below.refl _ _))) (by first | exact hOkI | exact fun e he => (hOkI e he).next (below_drewO (Below.refl _ _))) hsI).mono ?_
                     rintro e9 w8 ⟨v, rfl, A8, c8, L8, rfl, hx8, hown8, htk8, hb8⟩
                     have hl8 : (L.take i ++ (⟨nm, ⟨T, tc, tl⟩⟩ : NodE) :: L.drop i).length = i + 1 := by rw [List.length_append, List.length_cons, List.length_take, List.length_drop, Hn.out]; omega
                     rw [hl8] at hown8 ⊢
                     have hB8 : Below W5.heap.size W5 w8 := bnext (by (repeat' (first | with_reducible exact hB7 | with_reducible refine below_drewO ?_)); done) hb8
                     have kg8 := kX5.next hB8)
                  | (have hz := hownC
                     go_at_call 46
                     first
                       | (have hz2 := kV
                          have q4 : World.ownsRow w6 bC 36 2 (.slice A6 i c6) i (nodCs L) := hownC
                          have q5 : bC ≤ w6.heap.size := hbC2
                          refine (insN_any (base := bC) (vc := 1) (i := i) (vb := W5.heap.size) #[.string nm, .slice T p tc] _ q4 q5 hin rfl (by intro u hu; simp at hu; rcases hu with rfl | rfl <;> rfl) (nodCs_one L) kV hneV (by omega)).mono ?_
                          rintro e9 w7 ⟨v, rfl, hI, hgrI, _⟩
                          obtain ⟨A7, c7, rfl, _⟩ := own_form hI
                          have hB7 : Below W5.heap.size W5 w7 := Below.trans hB6 ((grown_below q4 hgrI q5).mono hbC1))
                       | (have q4 : World.ownsRow (w6.alloc (.cells #[.string nm, .slice T p tc] 36)) bC 36 2 (.slice A6 i c6) i (nodCs L) := own_allocJ hownC
                          have q5 : bC ≤ (w6.alloc (.cells #[.string nm, .slice T p tc] 36)).heap.size := Nat.le_trans hbC2 (one_allocJ _ _).size
                          refine (insN_any (base := bC) (vc := 1) (i := i) (vb := w6.heap.size) #[.string nm, .slice T p tc] _ q4 q5 hin rfl (by intro u hu; simp at hu; rcases hu with rfl | rfl <;> rfl) (nodCs_one L) (Blk.new _ _ _) hneW (by omega)).mono ?_
                          rintro e9 w7 ⟨v, rfl, hI, hgrI, _⟩
                          obtain ⟨A7, c7, rfl, _⟩ := own_form hI
                          have hB7 : Below W5.heap.size W5 w7 := Below.trans (below_allocJ hB6) ((grown_below q4 hgrI q5).mono hbC1))
                     have kg7 := kX5.next hB7
                     have hb07 := bnext hb05 hB7
                     have eys : (nodCs L).take (i * 2) ++ ((#[.string nm, .slice T p tc] : Array Value).toList ++ (nodCs L).drop (i * 2)) = nodCs (L.take i ++ (⟨nm, ⟨T, tc, tl⟩⟩ : NodE) :: L.drop i) := by
                       rw [nodCs_take, nodCs_drop, nodCs_app, show nodCs ((⟨nm, ⟨T, tc, tl⟩⟩ : NodE) :: L.drop i) = nodC ⟨nm, ⟨T, tc, tl⟩⟩ ++ nodCs (L.drop i) from rfl]
                       have e7 : ((#[.string nm, .slice T p tc] : Array Value).toList : List Value) = nodC ⟨nm, ⟨T, tc, tl⟩⟩ := by rw [← Hp.out]; rfl
                       rw [e7]
                     have hownI := hI
                     rw [eys] at hownI
                     have hHI : Has w7 w7.heap.size A7 (nodCs (L.take i ++ (⟨nm, ⟨T, tc, tl⟩⟩ : NodE) :: L.drop i)) := Has.of_own hownI
                     have hOkI : ∀ e ∈ L.take i ++ (⟨nm, ⟨T, tc, tl⟩⟩ : NodE) :: L.drop i, NodOk w7 e := fun e he => by
                       rcases List.mem_append.1 he with he | he
                       · exact (HL.out e (List.mem_of_mem_take he)).next hb07
                       · rcases List.mem_cons.1 he with rfl | he
                         · exact HX.out.next hb07
                         · exact (HL.out e (List.mem_of_mem_drop he)).next hb07
                     have hsI : ∀ e ∈ L.take i ++ (⟨nm, ⟨T, tc, tl⟩⟩ : NodE) :: L.drop i, e.t.l.length ≤ 1000 := fun e he => by
                       have hall : ∀ e ∈ L, e.t.l.length ≤ 1000 := fun e he => by
                         have h2 : e.t.l.length ≤ 20 := (Hok.out.2.1 e.x (List.mem_map.2 ⟨e, he, rfl⟩)).2.2.1
                         omega
                       rcases List.mem_append.1 he with he | he
                       · exact hall e (List.mem_of_mem_take he)
                       · rcases List.mem_cons.1 he with rfl | he
                         · have h2 : tl.length ≤ 20 := Hfit.out.2.2.1
                           show tl.length ≤ 1000
                           omega
                         · exact hall e (List.mem_of_mem_drop he))
                  | (go_at_call 47
                     refine (HCl3.out _ (bnext hb05 (by (repeat' (first | with_reducible exact Below.refl _ _ | with_reducible refine below_allocJ ?_ | with_reducible refine below_drewO ?_)); done))).mono ?_
                     rintro e9 w6 ⟨v, rfl, A6, c6, rfl, hownC, hbC⟩
                     have hB6 : Below W5.heap.size W5 w6 := bnext (by (repeat' (first | with_reducible exact Below.refl _ _ | with_reducible refine below_allocJ ?_ | with_reducible refine below_drewO ?_)); done) hbC
                     have kgC := kX5.next hB6
                     first
                       | (have kV : Blk w6 W5.heap.size 36 #[.string nm, .slice T p tc] := by refine Blk.next ?_ hbC; (repeat' (first | (with_reducible refine Blk.newJ _ _ _ _ ?_; rfl) | with_reducible refine Blk.drewO ?_)); done
                          have hneV : (Value.slice A6 i c6).ownBlock ≠ some W5.heap.size := pre_ne (t := 36) (cs := #[.string nm, .slice T p tc]) (by (repeat' (first | (with_reducible refine Blk.newJ _ _ _ _ ?_; rfl) | with_reducible refine Blk.drewO ?_)); done) hownC)
                       | skip
                     have hneW : (Value.slice A6 i c6).ownBlock ≠ some w6.heap.size := fun h => by have := (hownC.lt _ h).2; omega
                     obtain ⟨bC, hbC1, hbC2, hownC⟩ : ∃ bC, W5.heap.size ≤ bC ∧ bC ≤ w6.heap.size ∧ w6.ownsRow bC 36 2 (.slice A6 i c6) i (nodCs L) := ⟨_, Below.size (B := W5.heap.size) (w := W5) (by (repeat' (first | with_reducible exact Below.refl _ _ | with_reducible refine below_allocJ ?_ | with_reducible refine below_drewO ?_)); done), hbC.size, hownC⟩))
              all_goals
                have HF8 := Lib.hid (show JoinRP L ⟨nm, ⟨T, tc, tl⟩⟩ w (.tuple #[.slice A8 (i + 1) c8, .int .i64 0]) w8 from by
                  have hsz : w.heap.size ≤ w7.heap.size := hb07.size
                  refine ⟨.inr ⟨i, A8, c8, L8, Hok.out, Hfit.out, HP.out, HQ.out, by rw [Hn.out]; omega, by rw [Hn.out], by rw [hx8, insE], by rw [Hn.out]; exact own_less hown8 hsz, fun e he => (htk8 e he).less hsz⟩, bnext hb05 hB8⟩)
                clear hown8 htk8 hx8 hl8
                go_wp2_with fail
                go_ret2
                exact RV.mk HF8.out
end Go.Proofs.YtihjgbhnlejhfaaGreatDoor
