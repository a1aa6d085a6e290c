/- Texts of the proof of HouseDown, joined (by merge.py). Conditions: each theorem's own hypotheses. -/
import Derived.Test.YtihjgbhnlejhfaaGreatDoorHouseAcksP41
import Derived.Test.YtihjgbhnlejhfaaGreatDoorHouseAcksP42
import Derived.Test.YtihjgbhnlejhfaaGreatDoorHouseDownP0
namespace Go.Proofs.YtihjgbhnlejhfaaGreatDoor
open Go.RowKit Go.ChangeMaps

theorem SerOwn.cells {w w' : World} {b : Nat} {v : Value} {y : Ser} (h : SerOwn w b v y) (hc : CellsK w w') : SerOwn w' b v y := h.keep fun _ _ _ _ _ _ k => hc.own k
theorem StRows.cells {w w' : World} {b : Nat} {kvs : List (Value × Value)} {st : StD} (h : StRows w b kvs st) (hc : CellsK w w') : StRows w' b kvs st := h.keep fun _ _ k => k.cells hc
theorem foldl_take_snoc {α β : Type} [Inhabited α] (f : β → α → β) (b : β) {l : List α} {j : Nat} (hj : j < l.length) : (l.take (j + 1)).foldl f b = f ((l.take j).foldl f b) (at_ l j) := by
  rw [List.take_add_one, List.getElem?_eq_getElem hj, at_eq hj, List.foldl_append]
  rfl
/-- a map of series -/
structure SMap (w : World) (base mb : Nat) (es : Array MapEntry) (cl : Nat) (kvs : List (Value × Value)) (st : StD) : Prop where
  mp : w.heap[mb]? = some (.map es cl)
  shape : MpS Tryz.prog 9 es cl kvs
  rows : StRows w base kvs st
theorem SMap.next {w w' : World} {base mb : Nat} {es : Array MapEntry} {cl : Nat} {kvs : List (Value × Value)} {st : StD} (h : SMap w base mb es cl kvs st) (hb : Below w.heap.size w w') : SMap w' base mb es cl kvs st := ⟨(hb.block mb (Array.getElem?_eq_some_iff.1 h.mp).1).trans h.mp, h.shape, h.rows.cells (CellsK.of hb)⟩
theorem SMap.keysNd {w : World} {base mb : Nat} {es : Array MapEntry} {cl : Nat} {kvs : List (Value × Value)} {st : StD} (h : SMap w base mb es cl kvs st) : (st.map (·.1)).Nodup := by
  have h1 := h.shape.nodup
  rw [h.rows.keys] at h1
  have h2 : (st.map (fun p => Value.string p.1)) = (st.map (·.1)).map Value.string := by rw [List.map_map]; rfl
  rw [h2] at h1
  exact (List.pairwise_map.1 h1).imp fun h e => h (by rw [e])
theorem SMap.put {w : World} {base mb : Nat} {es : Array MapEntry} {cl : Nat} {kvs : List (Value × Value)} {st : StD} (h : SMap w base mb es cl kvs st) {key : ByteArray} (hk : key.size ≤ maxLen) {v : Value} {y : Ser} (hv : SerOwn w base v y) :
    ∃ es' cl' kvs', (Instr.mapUpdate 96 (.map (some mb)) (.string key) v).run Tryz.prog w = .ok () (setBlock w mb (.map es' cl')) ∧ SMap (setBlock w mb (.map es' cl')) base mb es' cl' kvs' (putSt st key y) := by
  obtain ⟨es', cl', kvs', h1, h2, h3⟩ := upd_shape strKey Tryz.underlying96 h.mp h.shape (str_keyed key hk) v
  exact ⟨es', cl', kvs', h1, heap_setBlock_self (Array.getElem?_eq_some_iff.1 h.mp).1, h2, (h.rows.cells (CellsK.setBlock h.mp)).put h.shape.nodup (hv.cells (CellsK.setBlock h.mp)) h3⟩
theorem SMap.look2 {w : World} {base mb : Nat} {es : Array MapEntry} {cl : Nat} {kvs : List (Value × Value)} {st : StD} (h : SMap w base mb es cl kvs st) {key : ByteArray} (hk : key.size ≤ maxLen) :
    (findSt st key = none ∧ (Instr.lookup 96 (.map (some mb)) (.string key) true).run Tryz.prog w = .ok (.tuple #[.agg #[.slice none 0 0, .slice none 0 0], .bool false]) w) ∨
    ∃ y A1 n1 c1 A2 n2 c2, findSt st key = some y ∧ y.1.length = n1 ∧ y.2.length = n2 ∧ w.ownsRow base 85 2 (.slice A1 n1 c1) n1 (labCs y.1) ∧ w.ownsRow base 26 2 (.slice A2 n2 c2) n2 (smpCs y.2) ∧ (Instr.lookup 96 (.map (some mb)) (.string key) true).run Tryz.prog w = .ok (.tuple #[.agg #[.slice A1 n1 c1, .slice A2 n2 c2], .bool true]) w := by
  have hl := MpS.look strKey Tryz.underlying96 (z := .agg #[.slice none 0 0, .slice none 0 0]) (fun u => by kernel_rfl) h.mp h.shape (str_keyed key hk) true
  simp only [if_true] at hl
  rcases hl with ⟨hno, hr⟩ | ⟨v0, hm, hr⟩
  · exact .inl ⟨find_none (h.rows.none hno), hr⟩
  · obtain ⟨y, hy, A1, n1, c1, A2, n2, c2, rfl, h1, h2, h3, h4⟩ := h.rows.mem hm
    exact .inr ⟨y, A1, n1, c1, A2, n2, c2, find_of_mem h.keysNd hy, h1, h2, h3, h4, hr⟩
theorem SMap.look1 {w : World} {base mb : Nat} {es : Array MapEntry} {cl : Nat} {kvs : List (Value × Value)} {st : StD} (h : SMap w base mb es cl kvs st) {key : ByteArray} (hk : key.size ≤ maxLen) {y : Ser} (hf : findSt st key = some y) :
    ∃ A1 n1 c1 A2 n2 c2, y.1.length = n1 ∧ y.2.length = n2 ∧ w.ownsRow base 85 2 (.slice A1 n1 c1) n1 (labCs y.1) ∧ w.ownsRow base 26 2 (.slice A2 n2 c2) n2 (smpCs y.2) ∧ (Instr.lookup 96 (.map (some mb)) (.string key) false).run Tryz.prog w = .ok (.agg #[.slice A1 n1 c1, .slice A2 n2 c2]) w := by
  have hl := MpS.look strKey Tryz.underlying96 (z := .agg #[.slice none 0 0, .slice none 0 0]) (fun u => by kernel_rfl) h.mp h.shape (str_keyed key hk) false
  simp only [Bool.false_eq_true, if_false] at hl
  rcases hl with ⟨hno, _⟩ | ⟨v0, hm, hr⟩
  · rw [find_none (h.rows.none hno)] at hf; cases hf
  · obtain ⟨y2, hy, A1, n1, c1, A2, n2, c2, rfl, h1, h2, h3, h4⟩ := h.rows.mem hm
    rw [find_of_mem h.keysNd hy] at hf
    injection hf with hf
    subst hf
    exact ⟨A1, n1, c1, A2, n2, c2, h1, h2, h3, h4, hr⟩
set_option maxRecDepth 1000000 in
set_option maxHeartbeats 16000000 in
theorem hall_any (base hb mb : Nat) (NA : Option Addr) (nc : Nat) (NL : List NodE) (es : Array MapEntry) (clock : Nat) (kvs : List (Value × Value)) (ls : List (Nat × Nat)) (puts : List Pt) (h : Hse) (hI : HseI puts h) (hm : puts.length ≤ 22)
    (w : World) (hh : HsAt w base hb mb NA nc NL es clock kvs ls h) (tS : SgAt w) :
    Calls Tryz.prog 25 #[.pointer (some ⟨hb, 0, none⟩)] w (RV (AllP (allH h) w)) := by
  obtain ⟨W1, hW1⟩ : ∃ W1, w.alloc (.map #[] 0) = W1 := ⟨_, rfl⟩
  obtain ⟨ma, hma⟩ : ∃ ma, w.heap.size = ma := ⟨_, rfl⟩
  have hmk : (Instr.makeMap 96 none).run Tryz.prog w = .ok (.map (some ma)) W1 := by rw [← hma, ← hW1]; kernel_rfl
  have hb1 : Below w.heap.size w W1 := by rw [← hW1]; exact one_allocB _ _
  have hM1 := Lib.hid (show SMap W1 w.heap.size ma #[] 0 [] [] from ⟨by rw [← hW1, ← hma]; exact heap_alloc_new _ _, MpS.empty _ _ _, .nil⟩)
  have hh1 := hh.next hb1
  have o0 : W1.cell? ⟨hb, 0, none⟩ = some (.slice NA NL.length nc) := hh1.obj.cell 0
  have hlen : NL.length ≤ 20 := by have h1 := hI.ring.1; rw [← hh.nodes, List.length_map] at h1; exact h1
  have HI := Lib.hid hI
  have Hm := Lib.hid hm
  have Hh := Lib.hid hh
  have HS := Lib.hid tS
  have Hma := Lib.hid hma
  obtain ⟨names, hnames⟩ : ∃ names, h.nodes.map (fun x : Nod => x.nm) = names := ⟨_, rfl⟩
  have hres : allH h = allN (gatherH h.ps names) := by unfold allH; rw [hnames]
  have Hnames := Lib.hid (show ∀ j, j < NL.length → (at_ NL j).nm = at_ names j ∧ j < names.length from fun j hj => by
    have h1 : names = NL.map fun e : NodE => e.nm := by rw [← hnames, ← hh.nodes, List.map_map]; rfl
    have h2 : j < names.length := by rw [h1, List.length_map]; exact hj
    refine ⟨?_, h2⟩
    rw [at_eq hj, at_eq h2]
    simp only [h1, List.getElem_map])
  obtain ⟨n, hn⟩ : ∃ n, NL.length = n := ⟨_, rfl⟩
  have Hnl := Lib.hid (show names.length = n from by rw [← hnames, ← hh.nodes, List.length_map, List.length_map]; exact hn)
  have hb1 := Lib.hid hb1
  have Hfew := Lib.hid (fun (names : List ByteArray) => (gather_ok hI hm names))
  rw [hres]
  rw [hn] at o0 hlen Hnames
  have Hn := Lib.hid hn
  clear hI hm hh tS hh1 hW1 hma hnames hres hn
  go_enter Tryz.func25, Tryz.ntmps25
  go_wp2_with fail
  go_loopw [23] (fun i wr => ∃ (j : Nat) (es1 : Array MapEntry) (cl1 : Nat) (kv1 : List (Value × Value)), j ≤ n ∧ i = .int .i64 (j : Nat) ∧ Hid (SMap wr w.heap.size ma es1 cl1 kv1 (gatherH h.ps (names.take j))) ∧ Hid (Below w.heap.size w wr)) (fun i _ => n + 5 - (intOf i).toNat)
  case atStart => exact ⟨0, #[], 0, [], by omega, rfl, Lib.hid (by rw [List.take_zero]; exact hM1.out), hb1⟩
  case round =>
    obtain ⟨j, es1, cl1, kv1, hj, rfl, hMj, hbr⟩ := hrel
    obtain ⟨wj, rfl⟩ : ∃ wj, wj = wr := ⟨_, rfl⟩
    have hhj := Hh.out.next hbr.out
    by_cases hlt : (j : Int) < (n : Int)
    · have hjl : j < NL.length := by rw [Hn.out]; omega
      obtain ⟨hnm, hjn⟩ := Hnames.out j (by omega)
      obtain ⟨ad, hNA, _, c0⟩ := (Has.of_own hhj.row).at (nodCs_0 hjl)
      obtain ⟨ad', e', _, c1⟩ := (Has.of_own hhj.row).at (nodCs_1 hjl)
      rw [hNA] at e'
      injection e' with e'
      subst e'
      subst hNA
      have c1 := cell_off c1 (by decide)
      have hgs : gatherH h.ps (names.take (j + 1)) = (serOf h.ps (at_ names j)).foldl joinS (gatherH h.ps (names.take j)) := by rw [take_snoc hjn, gather_snoc]
      obtain ⟨tA, ttA⟩ : ∃ v, (at_ NL j).t.A = v := ⟨_, rfl⟩
      obtain ⟨tp, ttp⟩ : ∃ v, (at_ NL j).t.l.length = v := ⟨_, rfl⟩
      obtain ⟨tc, ttc⟩ : ∃ v, (at_ NL j).t.c = v := ⟨_, rfl⟩
      rw [ttA, ttp, ttc] at c1
      rw [hnm] at c0
      have hxm : ∃ x ∈ h.nodes, x.nm = at_ names j := ⟨(at_ NL j).x, by rw [← Hh.out.nodes]; exact List.mem_map.2 ⟨_, at_mem hjl, rfl⟩, hnm⟩
      obtain ⟨nm, hnme⟩ : ∃ nm, at_ names j = nm := ⟨_, rfl⟩
      rw [hnme] at c0 hgs hxm
      obtain ⟨x, hx, hxn⟩ := hxm
      have hk20 : nm.size ≤ maxLen := by have h1 := (HI.out.ring.2.1 x hx).2.1; rw [hxn] at h1; unfold maxLen; omega
      obtain ⟨p0, hp0, hpn0⟩ := HI.out.each x hx
      have q0 : (0 : Int) ≤ (j : Int) := by omega
      obtain ⟨W8, hW8⟩ : ∃ W8, wj.alloc (.cells #[.string nm, .slice tA tp tc] 36) = W8 := ⟨_, rfl⟩
      obtain ⟨q8, hq8⟩ : ∃ q8, wj.heap.size = q8 := ⟨_, rfl⟩
      have hb8 : Below wj.heap.size wj W8 := by rw [← hW8]; exact one_allocB _ _
      have k8 : Blk W8 q8 36 #[.string nm, .slice tA tp tc] := by rw [← hW8]; exact Blk.newD _ _ _ _ hq8
      have hh8 := hhj.next hb8
      have hLk : ∃ p, p ∈ h.ps ∧ findP h.ps nm = some p ∧ PeerAt W8 base (locOf ls h.ps nm).1 (locOf ls h.ps nm).2 p ∧ ∀ V : World, Below W8.heap.size W8 V → (Instr.lookup 69 (.map (some mb)) (.string nm) false).run Tryz.prog V = .ok (.pointer (some ⟨(locOf ls h.ps nm).1, 0, none⟩)) V := by
        rcases peer_look hh8.peers nm hk20 with ⟨h1, _⟩ | ⟨p, _, h2, h3, h4, _⟩
        · exact absurd (hpn0.trans hxn) (find_none_all h1 p0 hp0)
        · refine ⟨p, h2, h3, h4, fun V hV => ?_⟩
          rcases peer_look (hh8.next hV).peers nm hk20 with ⟨h1, _⟩ | ⟨_, _, _, _, _, h5⟩
          · rw [h3] at h1; cases h1
          · exact h5
      obtain ⟨p, hpm, hf, hPA, hrunL⟩ := hLk
      obtain ⟨lc, hlc⟩ : ∃ lc, locOf ls h.ps nm = lc := ⟨_, rfl⟩
      rw [hlc] at hPA hrunL
      have hso : serOf h.ps nm = if p.up = true then allN p.st else [] := by unfold serOf; rw [hf]
      obtain ⟨up, hup⟩ : ∃ up, p.up = up := ⟨_, rfl⟩
      rw [hup] at hso
      have hS8 := Lib.hid (show ∀ V : World, Below W8.heap.size W8 V → V.cell? ⟨hb, 4, none⟩ = some (.map (some mb)) ∧ V.cell? ⟨q8, 0, none⟩ = some (.string nm) ∧ V.cell? ⟨lc.1, 0, none⟩ = some (.pointer (some ⟨lc.2, 0, none⟩)) ∧ V.cell? ⟨lc.1, 1, none⟩ = some (.bool up) ∧ (Instr.lookup 69 (.map (some mb)) (.string nm) false).run Tryz.prog V = .ok (.pointer (some ⟨lc.1, 0, none⟩)) V from fun V hV => ⟨(hh8.next hV).obj.cell 4, (k8.next hV).cell 0, (hPA.next hV).blk.cell 0, by rw [← hup]; exact (hPA.next hV).blk.cell 1, hrunL V hV⟩)
      have hpk := HI.out.peer Hm.out hpm
      have hA := Lib.hid (fun (V : World) (hV : Below W8.heap.size W8 V) => all_any base lc.2 p.dk p.dk.length p.st hpk.ok.ok hpk.ok.inv.keyOk V (hPA.next hV).st)
      have hbw8 := Lib.hid (bnext hbr.out hb8)
      have hM8 := Lib.hid (hMj.out.next hb8)
      have Hgs := Lib.hid hgs
      have Hser := Lib.hid (peer_put HI.out Hm.out hpm)
      have Hal := Lib.hid (show (allN p.st).length ≤ 22 from by
        have h1 := hpk.ok.inv.len
        have h2 := hpk.1
        rw [allN_len]
        exact Nat.le_trans h1 h2)
      have Hso := Lib.hid hso
      have Hgj := Lib.hid (Hfew.out (names.take j))
      clear hjl hnm hjn hhj hgs ttA ttp ttc hnme hx hxn hk20 hp0 hpn0 hb8 k8 hh8 hpm hf hPA hlc hso hup hrunL hpk
      cases up with
      | false =>
        have hz := Lib.hid (show gatherH h.ps (names.take (j + 1)) = gatherH h.ps (names.take j) from by rw [Hgs.out, Hso.out]; rfl)
        go_upto_region 5 with fail
        (try rw [hW8]); (try rw [hq8])
        clear hW8 hq8 c0 c1
        go_region_held_law (fun w' => w'.cell? ⟨hb, 4, none⟩ = some (.map (some mb)) ∧ w'.cell? ⟨q8, 0, none⟩ = some (.string nm) ∧ w'.cell? ⟨lc.1, 0, none⟩ = some (.pointer (some ⟨lc.2, 0, none⟩)) ∧ w'.cell? ⟨lc.1, 1, none⟩ = some (.bool false) ∧ (Instr.lookup 69 (.map (some mb)) (.string nm) false).run Tryz.prog w' = .ok (.pointer (some ⟨lc.1, 0, none⟩)) w')
          (first | exact hS8.out _ (Below.refl _ _) | exact hS8.out _ (below_drewN (Below.refl _ _) 1))
          (fail)
        all_goals
          go_wp2_with fail
          go_roundw
          case rel => exact ⟨j + 1, es1, cl1, kv1, by omega, by go_num, Lib.hid (by rw [hz.out]; exact hM8.out.next (below_drewN (Below.refl _ _) 1)), Lib.hid (below_drewN hbw8.out 1)⟩
          case measure => simp [intOf]; omega
      | true =>
        have hz := Lib.hid (show gatherH h.ps (names.take (j + 1)) = (allN p.st).foldl joinS (gatherH h.ps (names.take j)) from by rw [Hgs.out, Hso.out]; rfl)
        go_upto_region 5 with fail
        (try rw [hW8]); (try rw [hq8])
        clear hW8 hq8 c0 c1
        go_region_held_law (fun w' => w'.cell? ⟨hb, 4, none⟩ = some (.map (some mb)) ∧ w'.cell? ⟨q8, 0, none⟩ = some (.string nm) ∧ w'.cell? ⟨lc.1, 0, none⟩ = some (.pointer (some ⟨lc.2, 0, none⟩)) ∧ w'.cell? ⟨lc.1, 1, none⟩ = some (.bool true) ∧ (Instr.lookup 69 (.map (some mb)) (.string nm) false).run Tryz.prog w' = .ok (.pointer (some ⟨lc.1, 0, none⟩)) w')
          (first | exact hS8.out _ (Below.refl _ _) | exact hS8.out _ (below_drewN (Below.refl _ _) 1))
          (fail)
        all_goals
          have hS8b := Lib.hid (fun (V : World) (hV : Below W8.heap.size W8 V) => hS8.out V hV)
          go_upto_region 6 with fail
          go_region_held_law (fun w' => w'.cell? ⟨hb, 4, none⟩ = some (.map (some mb)) ∧ w'.cell? ⟨q8, 0, none⟩ = some (.string nm) ∧ w'.cell? ⟨lc.1, 0, none⟩ = some (.pointer (some ⟨lc.2, 0, none⟩)) ∧ w'.cell? ⟨lc.1, 1, none⟩ = some (.bool true) ∧ (Instr.lookup 69 (.map (some mb)) (.string nm) false).run Tryz.prog w' = .ok (.pointer (some ⟨lc.1, 0, none⟩)) w')
            (first | exact hS8.out _ (below_drewN (Below.refl _ _) 1) | exact hS8.out _ (below_drewN (Below.refl _ _) 2) | exact hS8.out _ hb85)
            (first
              | (go_at_call 52
                 refine (hA.out (W8.drewN 2) (below_drewN (Below.refl _ _) 2)).mono ?_
                 rintro e w5 ⟨v, rfl, A, m, c5, es5, rfl, hm5, ho5, hR5, hb5⟩
                 have hb85 : Below W8.heap.size W8 w5 := bnext (below_drewN (Below.refl _ _) 2) hb5))
          all_goals
            obtain ⟨all, hall⟩ : ∃ all, allN p.st = all := ⟨_, rfl⟩
            rw [hall] at hm5 hR5 hz Hal Hser
            have hm22 : m ≤ 22 := by rw [← hm5]; exact Hal.out
            obtain ⟨stj, hstj⟩ : ∃ stj, gatherH h.ps (names.take j) = stj := ⟨_, rfl⟩
            rw [hstj] at hz hM8 Hgj
            have Hm5 := Lib.hid hm5
            have hs8 : w.heap.size ≤ (W8.drewN 2).heap.size := hbw8.out.size
            have Ho5 := Lib.hid (own_less ho5 hs8)
            have HR5 := Lib.hid (hR5.less hs8)
            have hM5 := Lib.hid (hM8.out.next hb85)
            have hbw5 := Lib.hid (bnext hbw8.out hb85)
            clear hm5 ho5 hR5 hb5 hb85 hall hstj hs8 hM8 hA hS8b
            go_wp2_with fail
            go_loopw [50] (fun i wr => ∃ (k : Nat) (es2 : Array MapEntry) (cl2 : Nat) (kv2 : List (Value × Value)), k ≤ m ∧ i = .int .i64 (k : Nat) ∧ Hid (SMap wr w.heap.size ma es2 cl2 kv2 ((all.take k).foldl joinS stj)) ∧ Hid (Below w.heap.size w wr) ∧ Hid (CellsK w5 wr)) (fun i _ => m + 5 - (intOf i).toNat)
            case atStart => exact ⟨0, es1, cl1, kv1, by omega, rfl, Lib.hid (by rw [List.take_zero]; exact hM5.out), hbw5, Lib.hid (CellsK.refl _)⟩
            case round =>
              obtain ⟨k, es2, cl2, kv2, hk, rfl, hMk, hbk, hck⟩ := hrel
              by_cases hkt : (k : Int) < (m : Int)
              · have hjl : k < all.length := by rw [Hm5.out]; omega
                obtain ⟨u0, u1, hu0, hu1, hs⟩ := HR5.out.get hjl
                obtain ⟨ad, rfl, _, c0⟩ := (Has.of_own (hck.out.own Ho5.out)).at hu0
                obtain ⟨ad', e', _, c1⟩ := (Has.of_own (hck.out.own Ho5.out)).at hu1
                injection e' with e'
                subst e'
                have c1 := cell_off c1 (by decide)
                have hyp := Hser.out _ (at_mem hjl)
                have hfs := foldl_take_snoc joinS stj hjl
                have hG := Hgj.out.adds (all.take k) (fun y hy => Hser.out y (List.mem_of_mem_take hy))
                obtain ⟨y, hy⟩ : ∃ y, at_ all k = y := ⟨_, rfl⟩
                rw [hy] at hs hyp hfs
                obtain ⟨st, hst⟩ : ∃ st, (all.take k).foldl joinS stj = st := ⟨_, rfl⟩
                rw [hst] at hfs hG
                rw [hst] at hMk
                obtain ⟨A1, n1, c1', A2, n2, c2', e5, hl1, hl2, ho1, ho2⟩ := hs
                simp at e5
                obtain ⟨rfl, rfl⟩ := e5
                have ho1 := hck.out.own ho1
                have ho2 := hck.out.own ho2
                have hchk := hyp.1
                obtain ⟨hL10, hLab⟩ := chkL_ok hchk
                have htx : textN y.1 = (txL y.1, 0) := by unfold textN txL; rw [hchk, if_neg (by simp)]
                have hts : (txL y.1).size ≤ 1200 := txtB_size (chkM_asM hchk)
                have q1 : (0 : Int) ≤ (k : Int) := by omega
                go_upto_region 9 with fail
                obtain ⟨W6, hW6⟩ : ∃ W6, wr.alloc (.cells #[.slice A1 n1 c1', .slice A2 n2 c2'] 101) = W6 := ⟨_, rfl⟩
                obtain ⟨q6, hq6⟩ : ∃ q6, wr.heap.size = q6 := ⟨_, rfl⟩
                have hb6 : Below wr.heap.size wr W6 := by rw [← hW6]; exact one_allocB _ _
                have k6 : Blk W6 q6 101 #[.slice A1 n1 c1', .slice A2 n2 c2'] := by rw [← hW6]; exact Blk.newD _ _ _ _ hq6
                rw [hW6, hq6]
                have x0 : W6.cell? ⟨q6, 0, none⟩ = some (.slice A1 n1 c1') := k6.cell 0
                have HT := lbtext_any A1 n1 c1' y.1 hl1 (by unfold maxLen; omega) W6 (Has.of_own (own_next ho1 hb6)) hLab (HS.out.next (bnext hbk.out hb6))
                rw [htx] at HT
                have HT := Lib.hid HT
                have hjo : ∀ st, joinS st y = match findSt st (txL y.1) with | none => putSt st (txL y.1) y | some y0 => putSt st (txL y.1) (y0.1, mergeUp y0.2 y.2) := fun _ => rfl
                have hfind := fun (y0 : Ser) (hf0 : findSt st (txL y.1) = some y0) => hG.find hf0
                obtain ⟨key, hkey⟩ : ∃ key, txL y.1 = key := ⟨_, rfl⟩
                rw [hkey] at HT hts hfind
                have Hjo := Lib.hid (by have := hjo st; rw [hkey] at this; exact this)
                have Hkey := Lib.hid hkey
                have Hyp := Lib.hid hyp
                have Hfs := Lib.hid hfs
                have Hl1 := Lib.hid hl1
                have Hl2 := Lib.hid hl2
                have Ho1 := Lib.hid ho1
                have Ho2 := Lib.hid ho2
                have Hb6 := Lib.hid hb6
                have K6 := Lib.hid k6
                have Hfind := Lib.hid hfind
                clear hW6 hq6 hb6 k6 c0 c1 hu0 hu1 hl1 hl2 ho1 ho2 hchk hL10 hLab htx hy hst hkey hjo hyp hfs hfind
                go_wp2_with fail
                refine HT.out.mono ?_
                rintro e9 w7 ⟨rfl, hb7⟩
                have hb67 := bnext Hb6.out hb7
                have k7 := K6.out.next hb7
                have hM7 := hMk.out.next hb67
                have hksz : key.size ≤ maxLen := by unfold maxLen; omega
                have ho1 := own_next Ho1.out hb67
                have ho2 := own_next Ho2.out hb67
                have Hksz := Lib.hid hksz
                have hlk := hM7.look2 hksz
                have hc7 := Lib.hid (hck.out.trans (CellsK.of hb67))
                have hb7w := Lib.hid (bnext hbk.out hb67)
                rcases hlk with ⟨hf0, hr⟩ | ⟨y0, B1, m1, d1, B2, m2, d2, hf0, g1, g2, g3, g4, hr⟩
                · have hstep := Lib.hid (show (all.take (k + 1)).foldl joinS stj = putSt st key y from by rw [Hfs.out, Hjo.out, hf0])
                  go_upto_region 11 with fail
                  obtain ⟨W10, hW10⟩ : ∃ W10, w7.alloc (.cells #[.slice none 0 0, .slice none 0 0] 101) = W10 := ⟨_, rfl⟩
                  obtain ⟨q10, hq10⟩ : ∃ q10, w7.heap.size = q10 := ⟨_, rfl⟩
                  have hb10 : Below w7.heap.size w7 W10 := by rw [← hW10]; exact one_allocB _ _
                  have k10 := k7.next hb10
                  have x0 : W10.cell? ⟨q6, 0, none⟩ = some (.slice A1 n1 c1') := k10.cell 0
                  have x1 : W10.cell? ⟨q6, 1, none⟩ = some (.slice A2 n2 c2') := k10.cell 1
                  obtain ⟨es3, cl3, kv3, hupd, hM11⟩ := (hM7.next hb10).put hksz (v := .agg #[.slice A1 n1 c1', .slice A2 n2 c2']) (y := y) ⟨A1, n1, c1', A2, n2, c2', rfl, Hl1.out, Hl2.out, own_next ho1 hb10, own_next ho2 hb10⟩
                  have hb11 := Lib.hid (below_setBlockG (bnext hb7w.out hb10) (Nat.le_of_eq Hma.out) (.map es3 cl3))
                  have hc11 := Lib.hid (hc7.out.trans ((CellsK.of hb10).trans (CellsK.setBlock (hM7.next hb10).mp (o := .map es3 cl3))))
                  have hM11 := Lib.hid hM11
                  obtain ⟨W11, hW11⟩ : ∃ W11, setBlock W10 ma (.map es3 cl3) = W11 := ⟨_, rfl⟩
                  rw [hW11] at hupd hM11 hb11 hc11
                  clear hb67 k7 hM7 hksz ho1 ho2 hf0 hb10 k10 hW11 hb7
                  (try rw [hW10]); (try rw [hq10])
                  clear hW10 hq10 hr
                  go_wp2_with fail
                  go_roundw
                  case rel => exact ⟨k + 1, es3, cl3, kv3, by omega, by go_num, Lib.hid (by rw [hstep.out]; exact hM11.out), hb11, hc11⟩
                  case measure => simp [intOf]; omega
                · have hstep := Lib.hid (show (all.take (k + 1)).foldl joinS stj = putSt st key (y0.1, mergeUp y0.2 y.2) from by rw [Hfs.out, Hjo.out, hf0])
                  obtain ⟨hk0, hsp0⟩ := Hfind.out y0 hf0
                  have hL : y.1 = y0.1 := txL_inj Hyp.out.1 hsp0.1 (by rw [Hkey.out]; exact hk0)
                  have hrow : PutRow puts y0.1 (mergeUp y0.2 y.2) := merge_row hsp0.2.1 (by rw [← hL]; exact Hyp.out.2.1)
                  have h22 := Hm.out
                  have r1 := hsp0.2.1.few HI.out.ok
                  have r2 := Hyp.out.2.1.few HI.out.ok
                  have r3 := hrow.few HI.out.ok
                  obtain ⟨W10, hW10⟩ : ∃ W10, w7.alloc (.cells #[.slice B1 m1 d1, .slice B2 m2 d2] 101) = W10 := ⟨_, rfl⟩
                  obtain ⟨q10, hq10⟩ : ∃ q10, w7.heap.size = q10 := ⟨_, rfl⟩
                  have hb10 : Below w7.heap.size w7 W10 := by rw [← hW10]; exact one_allocB _ _
                  have k10 : Blk W10 q10 101 #[.slice B1 m1 d1, .slice B2 m2 d2] := by rw [← hW10]; exact Blk.newD _ _ _ _ hq10
                  have j10 := k7.next hb10
                  have x1 : W10.cell? ⟨q6, 1, none⟩ = some (.slice A2 n2 c2') := j10.cell 1
                  have z1 : W10.cell? ⟨q10, 1, none⟩ = some (.slice B2 m2 d2) := k10.cell 1
                  have g4' := own_next g4 hb10
                  have ho2' := own_next ho2 hb10
                  have hMg := Lib.hid (mergeS_any B2 m2 d2 y0.2 g2 (own_len g4').1 (own_len g4').2 A2 n2 c2' y.2 Hl2.out (own_len ho2').1 (own_len ho2').2 hsp0.2.1.up Hyp.out.2.1.up (by rw [← g2]; omega) (by rw [← Hl2.out]; omega) (by omega) W10 (Has.of_own g4') (Has.of_own ho2'))
                  have K10 := Lib.hid k10
                  have G3 := Lib.hid (own_next g3 hb10)
                  have G1 := Lib.hid g1
                  have Hm10 := Lib.hid (hM7.next hb10)
                  have Hb10 := Lib.hid (bnext hb7w.out hb10)
                  have Hc10 := Lib.hid (hc7.out.trans (CellsK.of hb10))
                  clear hb67 k7 hM7 hksz ho1 ho2 hf0 hb10 k10 j10 hb7 g1 g2 g3 g4 g4' ho2' hk0 hsp0 hL hrow h22 r1 r2 r3
                  go_upto_region 11 with fail
                  (try rw [hW10]); (try rw [hq10])
                  clear hW10 hq10 hr x0
                  go_wp2_with fail
                  refine hMg.out.mono ?_
                  rintro e9 w11 ⟨v, rfl, A4, m4, d4, rfl, hl4, ho4, hb11⟩
                  have z0 : w11.cell? ⟨q10, 0, none⟩ = some (.slice B1 m1 d1) := (K10.out.next hb11).cell 0
                  have hM11 := Hm10.out.next hb11
                  obtain ⟨es3, cl3, kv3, hupd, hM12⟩ := hM11.put Hksz.out (v := .agg #[.slice B1 m1 d1, .slice A4 m4 d4]) (y := (y0.1, mergeUp y0.2 y.2)) ⟨B1, m1, d1, A4, m4, d4, rfl, G1.out, hl4, own_next G3.out hb11, own_less ho4 Hb10.out.size⟩
                  have hb12 := Lib.hid (below_setBlockG (bnext Hb10.out hb11) (Nat.le_of_eq Hma.out) (.map es3 cl3))
                  have hc12 := Lib.hid (Hc10.out.trans ((CellsK.of hb11).trans (CellsK.setBlock hM11.mp (o := .map es3 cl3))))
                  have hM12 := Lib.hid hM12
                  obtain ⟨W12, hW12⟩ : ∃ W12, setBlock w11 ma (.map es3 cl3) = W12 := ⟨_, rfl⟩
                  rw [hW12] at hupd hM12 hb12 hc12
                  clear hl4 ho4 hb11 hM11 hW12 x1 z1
                  go_wp2_with fail
                  go_roundw
                  case rel => exact ⟨k + 1, es3, cl3, kv3, by omega, by go_num, Lib.hid (by rw [hstep.out]; exact hM12.out), hb12, hc12⟩
                  case measure => simp [intOf]; omega
              · obtain rfl : m = k := by omega
                have hz2 := hMk.out
                rw [show all.take m = all by rw [← Hm5.out, List.take_length], ← hz.out] at hz2
                have hz2 := Lib.hid hz2
                clear hMk hM5 hbw5
                go_wp2_with fail
                go_roundw
                case rel => exact ⟨j + 1, es2, cl2, kv2, by omega, by go_num, hz2, hbk⟩
                case measure => simp [intOf]; omega
    · obtain rfl : n = j := by omega
      have hM := hMj.out
      have hg := Hfew.out names
      rw [show names.take n = names by rw [← Hnl.out, List.take_length]] at hM
      obtain ⟨st, hst⟩ : ∃ st, gatherH h.ps names = st := ⟨_, rfl⟩
      rw [hst] at hM hg ⊢
      have hfew := (hg.few HI.out.ok).1
      have h22 := Hm.out
      have hks := sortedX_any (ks := st.map (·.1)) hM.mp hM.shape (by rw [hM.rows.keys, List.map_map]; rfl) (by rw [List.length_map]; omega)
      obtain ⟨w2, hw2⟩ : ∃ w2, wj.alloc (.cells #[.map (some ma)] 96) = w2 := ⟨_, rfl⟩
      have hb12 : Below wj.heap.size wj w2 := by rw [← hw2]; exact one_allocB _ _
      have hKs := keysX_any (some ma) wj
      rw [hw2] at hks hKs
      have hks := Lib.hid hks
      have hKs := Lib.hid hKs
      have HM := Lib.hid hM
      have Hg := Lib.hid hg
      have Hb12 := Lib.hid hb12
      have hstl : st.length ≤ 22 := by omega
      have Hres := Lib.hid (show allN (gatherH h.ps names) = allN st from by rw [hst])
      clear hhj hM hg hst hfew hw2 hb12 hMj hM1 hb1
      go_wp2_with fail
      refine hKs.out.mono ?_
      rintro e w9 ⟨rfl, rfl⟩
      go_wp2_with fail
      refine hks.out.mono ?_
      rintro e w3 ⟨v, rfl, KA, m, kc, rfl, hkm, hoK, hb3⟩
      rw [← keysS_eq] at hoK
      rw [List.length_map] at hkm
      have hm22 : m ≤ 22 := by omega
      have hb13 := bnext Hb12.out hb3
      have HM3 := Lib.hid (HM.out.next hb13)
      have HK := Lib.hid (Has.of_own hoK)
      have hb03 := Lib.hid (bnext hbr.out hb13)
      have Hkm := Lib.hid hkm
      clear hoK hb3 hb13 hkm HM hks hKs
      go_wp2_with fail
      go_loopw [14, 93] (fun out i wr => ∃ (k : Nat) (A3 : Option Addr) (c3 : Nat) (es3 : List (Value × Value)), k ≤ m ∧ i = .int .i64 (k : Nat) ∧ out = .slice A3 k c3 ∧ Hid (wr.ownsRow w3.heap.size 101 2 (.slice A3 k c3) k (serCs es3)) ∧ Hid (SerRow wr w.heap.size es3 ((allN st).take k)) ∧ Hid (Below w3.heap.size w3 wr)) (fun _ i _ => m + 5 - (intOf i).toNat)
      case atStart => exact ⟨0, none, 0, [], by omega, rfl, rfl, Lib.hid (World.ownsRow_nil _ _ _ _), Lib.hid (by rw [List.take_zero]; exact .nil), Lib.hid (Below.refl _ _)⟩
      case round =>
        obtain ⟨k, A3, c3, es3, hk, rfl, rfl, hoR, hR, hb3r⟩ := hrel
        by_cases hkt : (k : Int) < (m : Int)
        · have hkl : k < (keysS st).length := by rw [keysS_len, Hkm.out]; omega
          obtain ⟨key, hkey⟩ : ∃ key, (keysS st)[k]? = some key := ⟨_, List.getElem?_eq_getElem hkl⟩
          obtain ⟨ad, rfl, _, c0⟩ := (HK.out.next hb3r.out).at (strCs_atS hkey)
          have hkm2 := keysS_mem (List.mem_of_getElem? hkey)
          obtain ⟨q, hq, hq2⟩ := List.mem_map.1 hkm2
          obtain ⟨kk, y⟩ := q
          simp only [] at hq2
          subst hq2
          have hf := find_of_mem HM3.out.keysNd hq
          obtain ⟨hkt2, hsp⟩ := Hg.out.find hf
          have hksz : kk.size ≤ maxLen := by
            have := txtB_size (chkM_asM hsp.1)
            rw [hkt2]
            unfold txL maxLen
            omega
          obtain ⟨A1, n1, c1, A2, n2, c2, g1, g2, g3, g4, hr⟩ := (HM3.out.next hb3r.out).look1 hksz hf
          have htake := Lib.hid (show (allN st).take (k + 1) = (allN st).take k ++ [y] from by
            unfold allN
            rw [List.take_add_one, List.getElem?_map, hkey]
            show _ ++ [serAt st kk] = _
            unfold serAt
            rw [hf]
            rfl)
          have HS1 := Lib.hid (show SerOwn wr w.heap.size (.agg #[.slice A1 n1 c1, .slice A2 n2 c2]) y from ⟨A1, n1, c1, A2, n2, c2, rfl, g1, g2, g3, g4⟩)
          have q1 : (0 : Int) ≤ (k : Int) := by omega
          have hbs := hb3r.out.size
          clear hkl hkey hkm2 hq hf hkt2 hsp hksz g1 g2 g3 g4
          go_wp2_with (at_builtin; refine wpList_append1 rfl _ _ _ rfl elSer (v := .slice A3 k c3) rfl hoR.out rfl rfl rfl ?_ ?k1 ?k2 ?k3 ?k4; intro A7 c7 w7 hown7 hgrow7 hbel7)
          case k1 => exact ⟨rfl, rfl⟩
          case k2 => omega
          case k3 => unfold maxLen; omega
          case k4 => exact hbs
          have hS7 := Lib.hid (show SerRow w7 w.heap.size (es3 ++ [(.slice A1 n1 c1, .slice A2 n2 c2)]) ((allN st).take (k + 1)) from by
            rw [htake.out]
            exact (hR.out.snoc HS1.out).keep fun v y h => h.grown hoR.out hgrow7)
          have ho7 := Lib.hid hown7
          have hb7 := Lib.hid (hb3r.out.trans hbel7)
          clear hown7 hgrow7 hbel7 c0 hr
          go_wp2_with fail
          go_roundw
          case rel => exact ⟨k + 1, A7, c7, es3 ++ [(.slice A1 n1 c1, .slice A2 n2 c2)], by omega, by go_num, rfl, (by have := ho7.out; exact Lib.hid (by unfold serCs; rw [List.flatMap_append]; exact this)), hS7, hb7⟩
          case measure => simp [intOf]; omega
        · obtain rfl : m = k := by omega
          have htk := Lib.hid (show (allN st).take m = allN st from List.take_of_length_le (by rw [allN_len, Hkm.out]; exact Nat.le_refl _))
          go_wp2_with fail
          go_ret
          have hR' := hR.out
          rw [htk.out] at hR'
          rw [Hres.out]
          exact RV.mk ⟨A3, m, c3, es3, rfl, by rw [allN_len]; exact Hkm.out, own_less hoR.out hb03.out.size, hR', bnext hb03.out hb3r.out⟩
end Go.Proofs.YtihjgbhnlejhfaaGreatDoor
