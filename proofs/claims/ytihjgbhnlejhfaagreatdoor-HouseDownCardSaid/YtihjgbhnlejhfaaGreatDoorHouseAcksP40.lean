/- Texts of the proof of HouseAcks, joined (by merge.py). Conditions: each theorem's own hypotheses. -/
import Derived.Test.YtihjgbhnlejhfaaGreatDoorHouseAcksP22
import Derived.Test.YtihjgbhnlejhfaaGreatDoorHouseAcksP38
import Derived.Test.YtihjgbhnlejhfaaGreatDoorHouseAcksP39
import Derived.Deep.CutRange
import Derived.Deep.RegionHeldLaw
import Derived.StillTailTactics
namespace Go.Proofs.YtihjgbhnlejhfaaGreatDoor
open Go.RowKit Go.ChangeMaps
open Go.WideMaps (KeyLaw)

theorem StAt.foot_next {w w' : World} {base g b dg : Nat} {A : Option Addr} {c : Nat} {es : Array MapEntry} {clock : Nat} {kvs : List (Value × Value)} {dk : List Nat} {sf : Int} {st : StD} (h : StAt w base g b dg A c es clock kvs dk sf st) (hb : Below w.heap.size w w') : footS w' g = footS w g := by
  rw [(h.next hb).foot, h.foot]
theorem StM.foot_next {w w' : World} {base g : Nat} {dk : List Nat} {sf : Int} {st : StD} (h : StM w base g dk sf st) (hb : Below w.heap.size w w') : footS w' g = footS w g := by
  obtain ⟨_, _, _, _, _, _, _, h⟩ := h
  exact h.foot_next hb
/-- a store stands while another one is worked on -/
theorem StAt.out {w w' : World} {base b2 g g2 b dg : Nat} {A : Option Addr} {c : Nat} {es : Array MapEntry} {clock : Nat} {kvs : List (Value × Value)} {dk : List Nat} {sf : Int} {st : StD} (h : StAt w base g b dg A c es clock kvs dk sf st) (hO : OutS b2 g2 w w') (hd : ∀ q ∈ footS w g, q ∉ footS w g2) : StAt w' base g b dg A c es clock kvs dk sf st := by
  rw [h.foot] at hd
  have hm : ∀ q, q < w.heap.size → q ∈ g :: b :: dg :: (A.map Addr.block).toList → w'.heap[q]? = w.heap[q]? := fun q hq hf => hO.block q hq (hd q hf)
  exact {
    obj := (hm g h.obj.lt (by simp)).trans h.obj
    mp := (hm b (Array.getElem?_eq_some_iff.1 h.mp).1 (by simp)).trans h.mp
    shape := h.shape
    rows := h.rows.keep fun _ _ k => k.out hO.toOutB
    disk := ⟨(hm dg h.disk.1.lt (by simp)).trans h.disk.1, own_keepS h.disk.2 fun q hq => by
      obtain ⟨cs, hc⟩ := own_kindS h.disk.2 q hq
      refine hm q (Array.getElem?_eq_some_iff.1 hc).1 ?_
      have e : A.map Addr.block = some q := by
        cases A with
        | none => cases hq
        | some a => simpa [Value.ownBlock] using hq
      simp [e]⟩
    og := h.og
    ob := h.ob
    od := h.od }
theorem StM.out {w w' : World} {base b2 g g2 : Nat} {dk : List Nat} {sf : Int} {st : StD} (h : StM w base g dk sf st) (hO : OutS b2 g2 w w') (hd : ∀ q ∈ footS w g, q ∉ footS w g2) : StM w' base g dk sf st ∧ footS w' g = footS w g := by
  obtain ⟨b, dg, A, c, es, clock, kvs, h⟩ := h
  have h2 := h.out hO hd
  exact ⟨⟨b, dg, A, c, es, clock, kvs, h2⟩, by rw [h2.foot, h.foot]⟩
/-- a peer: its object, its store -/
structure PeerAt (w : World) (base pb g : Nat) (p : Peer) : Prop where
  blk : Blk w pb 99 #[.pointer (some ⟨g, 0, none⟩), .bool p.up]
  st : StM w base g p.dk p.dk.length p.st
  opb : base ≤ pb
theorem PeerAt.next {w w' : World} {base pb g : Nat} {p : Peer} (h : PeerAt w base pb g p) (hb : Below w.heap.size w w') : PeerAt w' base pb g p := ⟨h.blk.next hb, h.st.next hb, h.opb⟩
theorem PeerAt.out {w w' : World} {base b2 pb g g2 : Nat} {p : Peer} (h : PeerAt w base pb g p) (hO : OutS b2 g2 w w') (hd : ∀ q ∈ footS w g, q ∉ footS w g2) : PeerAt w' base pb g p := ⟨hO.blk h.blk (by unfold StKind; decide), (h.st.out hO hd).1, h.opb⟩
/-- the map's entries -/
inductive PRows (w : World) (base : Nat) : List (Value × Value) → List (Nat × Nat) → List Peer → Prop
  | nil : PRows w base [] [] []
  | cons {l : Nat × Nat} {p : Peer} {kvs : List (Value × Value)} {ls : List (Nat × Nat)} {ps : List Peer} : PeerAt w base l.1 l.2 p → PRows w base kvs ls ps → PRows w base ((.string p.nm, .pointer (some ⟨l.1, 0, none⟩)) :: kvs) (l :: ls) (p :: ps)
theorem PRows.next {w w' : World} {base : Nat} {kvs : List (Value × Value)} {ls : List (Nat × Nat)} {ps : List Peer} (h : PRows w base kvs ls ps) (hb : Below w.heap.size w w') : PRows w' base kvs ls ps := by
  induction h with
  | nil => exact .nil
  | cons h1 _ ih => exact .cons (h1.next hb) ih
theorem PRows.foots {w w' : World} {base : Nat} {kvs : List (Value × Value)} {ls : List (Nat × Nat)} {ps : List Peer} (h : PRows w base kvs ls ps) (hb : Below w.heap.size w w') : (ls.map fun l => footS w' l.2) = ls.map fun l => footS w l.2 := by
  induction h with
  | nil => rfl
  | cons h1 _ ih => rw [List.map_cons, List.map_cons, ih, h1.st.foot_next hb]
theorem PRows.none {w : World} {base : Nat} {kvs : List (Value × Value)} {ls : List (Nat × Nat)} {ps : List Peer} (h : PRows w base kvs ls ps) {nm : ByteArray} (hn : ∀ p ∈ kvs, p.1 ≠ .string nm) : findP ps nm = none := by
  induction h with
  | nil => rfl
  | cons h1 _ ih =>
    unfold findP at ih ⊢
    rw [List.find?_cons]
    have h2 := hn _ List.mem_cons_self
    rw [decide_eq_false (fun e => h2 (by rw [e]))]
    exact ih fun p hp => hn p (List.mem_cons_of_mem _ hp)
/-- where the peer of a name lies: its object, its store -/
def locOf : List (Nat × Nat) → List Peer → ByteArray → Nat × Nat
  | l :: ls, p :: ps, nm => if p.nm = nm then l else locOf ls ps nm
  | _, _, _ => (0, 0)
theorem PRows.mem {w : World} {base : Nat} {kvs : List (Value × Value)} {ls : List (Nat × Nat)} {ps : List Peer} (h : PRows w base kvs ls ps) (hd : (kvs.map (·.1)).Nodup) {nm : ByteArray} {v : Value} (hm : (.string nm, v) ∈ kvs) : ∃ p, locOf ls ps nm ∈ ls ∧ p ∈ ps ∧ v = .pointer (some ⟨(locOf ls ps nm).1, 0, Option.none⟩) ∧ findP ps nm = some p ∧ PeerAt w base (locOf ls ps nm).1 (locOf ls ps nm).2 p := by
  induction h with
  | nil => cases hm
  | @cons l p0 kvs ls ps h1 _ ih =>
    rw [List.map_cons] at hd
    obtain ⟨d1, d2⟩ := List.nodup_cons.1 hd
    unfold findP at ih ⊢
    unfold locOf
    rw [List.find?_cons]
    rcases List.mem_cons.1 hm with e | e
    · injection e with e1 e2
      injection e1 with e1
      rw [decide_eq_true e1.symm, if_pos e1.symm]
      exact ⟨_, List.mem_cons_self, List.mem_cons_self, e2, rfl, h1⟩
    · have hne : ¬ p0.nm = nm := fun e2 => d1 (by rw [e2]; exact List.mem_map_of_mem (f := (·.1)) e)
      rw [decide_eq_false hne, if_neg hne]
      obtain ⟨p, a1, a2, a3, a4, a5⟩ := ih d2 e
      exact ⟨p, List.mem_cons_of_mem _ a1, List.mem_cons_of_mem _ a2, a3, a4, a5⟩
/-- a map of peers, whose stores stand side by side -/
structure PMap (w : World) (base mb : Nat) (es : Array MapEntry) (clock : Nat) (kvs : List (Value × Value)) (ls : List (Nat × Nat)) (ps : List Peer) : Prop where
  mp : w.heap[mb]? = some (.map es clock)
  shape : MpS Tryz.prog 9 es clock kvs
  prs : PRows w base kvs ls ps
  apart : (ls.map fun l => footS w l.2).Pairwise fun a b => ∀ q ∈ a, q ∉ b
  mapart : ∀ l ∈ ls, mb ∉ footS w l.2
  om : base ≤ mb
theorem PMap.next {w w' : World} {base mb : Nat} {es : Array MapEntry} {clock : Nat} {kvs : List (Value × Value)} {ls : List (Nat × Nat)} {ps : List Peer} (h : PMap w base mb es clock kvs ls ps) (hb : Below w.heap.size w w') : PMap w' base mb es clock kvs ls ps where
  mp := (hb.block mb (Array.getElem?_eq_some_iff.1 h.mp).1).trans h.mp
  shape := h.shape
  prs := h.prs.next hb
  apart := by rw [h.prs.foots hb]; exact h.apart
  mapart := fun l hl hm => by
    have e : footS w' l.2 ∈ ls.map fun l => footS w' l.2 := List.mem_map_of_mem (f := fun l => footS w' l.2) hl
    have h1 := h.prs.foots hb
    have h2 : ∀ f, (f ∈ ls.map fun l => footS w l.2) → mb ∉ f := fun f hf => by
      obtain ⟨l2, hl2, rfl⟩ := List.mem_map.1 hf
      exact h.mapart l2 hl2
    rw [h1] at e
    exact h2 _ e hm
  om := h.om
theorem PMap.nodup {w : World} {base mb : Nat} {es : Array MapEntry} {clock : Nat} {kvs : List (Value × Value)} {ls : List (Nat × Nat)} {ps : List Peer} (h : PMap w base mb es clock kvs ls ps) : (kvs.map (·.1)).Nodup := by
  rw [← h.shape.pairs, List.map_map]
  exact h.shape.stamped.2.2
/-- 'peers[name]' -/
theorem peer_look {w : World} {base mb : Nat} {es : Array MapEntry} {clock : Nat} {kvs : List (Value × Value)} {ls : List (Nat × Nat)} {ps : List Peer} (h : PMap w base mb es clock kvs ls ps) (nm : ByteArray) (hk : nm.size ≤ maxLen) :
    (findP ps nm = none ∧ (Instr.lookup 69 (.map (some mb)) (.string nm) false).run Tryz.prog w = .ok (.pointer none) w) ∨
    ∃ p, locOf ls ps nm ∈ ls ∧ p ∈ ps ∧ findP ps nm = some p ∧ PeerAt w base (locOf ls ps nm).1 (locOf ls ps nm).2 p ∧ (Instr.lookup 69 (.map (some mb)) (.string nm) false).run Tryz.prog w = .ok (.pointer (some ⟨(locOf ls ps nm).1, 0, none⟩)) w := by
  have hl := MpS.look strKey Tryz.underlying69 (z := .pointer none) (fun u => by kernel_rfl) h.mp h.shape (str_keyed nm hk) false
  simp only [Bool.false_eq_true, if_false] at hl
  rcases hl with ⟨hno, hr⟩ | ⟨v0, hm, hr⟩
  · exact .inl ⟨h.prs.none hno, hr⟩
  · obtain ⟨p, h1, h2, rfl, h3, h4⟩ := h.prs.mem h.nodup hm
    exact .inr ⟨p, h1, h2, h3, h4, hr⟩
/-- a house -/
structure HsAt (w : World) (base hb mb : Nat) (A : Option Addr) (c : Nat) (L : List NodE) (es : Array MapEntry) (clock : Nat) (kvs : List (Value × Value)) (ls : List (Nat × Nat)) (h : Hse) : Prop where
  obj : Blk w hb 71 #[.slice A L.length c, .int .i64 h.copies, .int .i64 h.write, .int .i64 h.read, .map (some mb)]
  nodes : L.map NodE.x = h.nodes
  row : w.ownsRow base 36 2 (.slice A L.length c) L.length (nodCs L)
  tks : ∀ e ∈ L, TkOwn w base e
  peers : PMap w base mb es clock kvs ls h.ps
  oh : base ≤ hb
theorem HsAt.next {w w' : World} {base hb mb : Nat} {A : Option Addr} {c : Nat} {L : List NodE} {es : Array MapEntry} {clock : Nat} {kvs : List (Value × Value)} {ls : List (Nat × Nat)} {h : Hse} (k : HsAt w base hb mb A c L es clock kvs ls h) (b : Below w.heap.size w w') : HsAt w' base hb mb A c L es clock kvs ls h :=
  ⟨k.obj.next b, k.nodes, own_next k.row b, fun e he => (k.tks e he).next b, k.peers.next b, k.oh⟩
def HsM (w : World) (base hb : Nat) (h : Hse) : Prop := ∃ mb A c L es clock kvs ls, HsAt w base hb mb A c L es clock kvs ls h
theorem HsM.next {w w' : World} {base hb : Nat} {h : Hse} (k : HsM w base hb h) (b : Below w.heap.size w w') : HsM w' base hb h := by
  obtain ⟨mb, A, c, L, es, clock, kvs, ls, k⟩ := k
  exact ⟨mb, A, c, L, es, clock, kvs, ls, k.next b⟩
end Go.Proofs.YtihjgbhnlejhfaaGreatDoor
namespace Go.Proofs.YtihjgbhnlejhfaaGreatDoor
open Go.RowKit Go.ChangeMaps

theorem elPeer : Elem Tryz.prog 81 72 1 8 := Elem.mk' (z := .pointer none) Tryz.underlying81 (by kernel_rfl) rfl (by decide)
def ptrCs (l : List (Nat × Nat)) : List Value := l.map fun q => .pointer (some ⟨q.1, 0, none⟩)
theorem ptrCs_len (l : List (Nat × Nat)) : (ptrCs l).length = l.length := by unfold ptrCs; rw [List.length_map]
theorem ptrCs_snoc (l : List (Nat × Nat)) (q : Nat × Nat) : ptrCs (l ++ [q]) = ptrCs l ++ (#[Value.pointer (some ⟨q.1, 0, none⟩)] : Array Value).toList := by simp [ptrCs]
theorem ptr_one (q : Nat) : ∀ u ∈ (#[Value.pointer (some ⟨q, 0, none⟩)] : Array Value).toList, u.oneCell' = true := by intro u hu; simp at hu; subst hu; rfl
def OwnPs (lp : List (Nat × Nat)) (w : World) (v : Value) (w' : World) : Prop :=
  ∃ A' c', v = .slice A' lp.length c' ∧ w'.ownsRow w.heap.size 72 1 (.slice A' lp.length c') lp.length (ptrCs lp) ∧ Below w.heap.size w w'
theorem strCs_atO {l : List ByteArray} {k : Nat} (h : k < l.length) : (strCs l)[k]? = some (.string (at_ l k)) := by
  have h2 : l[k]? = some (at_ l k) := by rw [List.getElem?_eq_getElem h, at_eq h]
  exact strCs_atS h2
theorem filter_snoc {α : Type} [Inhabited α] (p : α → Bool) {l : List α} {j : Nat} (h : j < l.length) : (l.take (j + 1)).filter p = (l.take j).filter p ++ (if p (at_ l j) = true then [at_ l j] else []) := by
  rw [List.take_add_one, List.getElem?_eq_getElem h, List.filter_append, at_eq h]
  congr 1
  rw [Option.toList_some, List.filter_cons, List.filter_nil]
set_option maxRecDepth 1000000 in
set_option maxHeartbeats 8000000 in
theorem howners_any (base hb : Nat) (X : Value) (copies : Nat) (Y Z U : Value) (hc20 : copies ≤ 20) (A : Option Addr) (n c : Nat) (L : List NodE) (hn : L.length = n) (hl : n ≤ maxLen) (hR : RgOk (L.map NodE.x)) (key : ByteArray) (hkey : key.size ≤ maxLen)
    (mb : Nat) (es : Array MapEntry) (clock : Nat) (kvs : List (Value × Value)) (ls : List (Nat × Nat)) (ps : List Peer) (hin : ∀ nm ∈ ownK (L.map NodE.x) copies key, nm.size ≤ maxLen ∧ findP ps nm ≠ none)
    (w : World) (ko : Blk w hb 71 #[X, .int .i64 copies, Y, Z, U]) (h : Has w w.heap.size A (nodCs L)) (hL : ∀ e ∈ L, NodOk w e) (hP : PMap w base mb es clock kvs ls ps) :
    Calls Tryz.prog 39 #[.pointer (some ⟨hb, 0, none⟩), .slice A n c, .string key, .map (some mb)] w (RV (OwnPs ((liveK (L.map NodE.x) copies ps key).map (locOf ls ps)) w)) := by
  have o1 : w.cell? ⟨hb, 1, none⟩ = some (.int .i64 copies) := ko.cell 1
  have hol := ko.lt
  have hcv := fun (w : World) (s : ByteArray) => Lib.run_convert_string_bytes (P := Tryz.prog) w 9 76 5 s Tryz.underlying9 Tryz.underlying76 Tryz.underlying5
  have HOf := Lib.hid (fun (w' : World) (g d : Nat) (hg : Has w' w'.heap.size (some ⟨g, 0, none⟩) (u8s (sb key))) => of_any' 0 (by omega) (some ⟨g, 0, none⟩) key.size d (sb key) (sb_len key) (by rw [sb_len]; exact hkey) (sb_bytes key) w' hg)
  have HQ := Lib.hid (fun (w' : World) (hb : Below w.heap.size w w') => ownersQ_any A n c L hn hl (keyN key) copies w' (h.next hb) (fun e he => (hL e he).next hb))
  have HR := Lib.hid hR
  have Hin := Lib.hid hin
  have HP := Lib.hid hP
  have hk0 : keyN key = ofN 0 (sb key) := rfl
  clear ko h hL hn hl hR hin hP
  go_enter Tryz.func39, Tryz.ntmps39
  go_upto_region 1 with fail
  go_cut [9] from 1 to 2 (fun v wx => ∃ B d o, v = .slice B o.length d ∧ Hid (o = ownK (L.map NodE.x) copies key) ∧ Hid (wx.ownsRow w.heap.size 9 1 (.slice B o.length d) o.length (strCs o)) ∧ Hid (Below w.heap.size w wx))
  case first =>
    go_region_held_law (fun w' => w'.cell? ⟨hb, 1, none⟩ = some (.int .i64 copies))
      (first
        | (refine (Below.cell (p := ⟨hb, 1, none⟩) (B := w.heap.size) ?_ hol).trans o1; (repeat' (first | with_reducible exact hB7 | with_reducible exact Below.refl _ _ | with_reducible refine below_drewB ?_ | with_reducible refine below_drewsB ?_ | with_reducible refine below_bytesT ?_)); done)
        | (trace_state; fail))
      (first
        | (go_at_call 73
           refine (HOf.out _ _ _ (by exact has_bytesS _ _ _)).mono ?_
           rintro e w3 ⟨rfl, n3, rfl⟩)
        | (go_at_call 72
           refine (HQ.out _ (by (repeat' (first | with_reducible exact Below.refl _ _ | with_reducible refine below_drewB ?_ | with_reducible refine below_drewsB ?_ | with_reducible refine below_bytesT ?_)); done)).mono ?_
           rintro e w7 ⟨v7, rfl, B7, n7, d7, o7, e7, rfl, rfl, ho7, hb7, hc7⟩
           have hO7 : w7.ownsRow w.heap.size 9 1 (.slice B7 o7.length d7) o7.length (strCs o7) := own_less ho7 (Below.size (show Below w.heap.size w _ by (repeat' (first | with_reducible exact Below.refl _ _ | with_reducible refine below_drewB ?_ | with_reducible refine below_drewsB ?_ | with_reducible refine below_bytesT ?_)); done))
           have hB7 : Below w.heap.size w w7 := bnext (by (repeat' (first | with_reducible exact Below.refl _ _ | with_reducible refine below_drewB ?_ | with_reducible refine below_drewsB ?_ | with_reducible refine below_bytesT ?_)); done) hb7))
    all_goals
      have hq7 : Hid (o7 = ownK (L.map NodE.x) copies key) := Lib.hid (by
        rcases hc7 with ⟨h1, _⟩ | ⟨_, h1, _⟩ | ⟨_, _, _, h1⟩
        · exact absurd (chkR_iff.2 HR.out) h1
        · omega
        · rw [h1]; rfl)
      clear hc7
      go_wp2_with fail
      go_meet
      exact ⟨B7, d7, o7, rfl, hq7, Lib.hid hO7, Lib.hid hB7⟩
  case rest =>
    obtain ⟨B, d, o, rfl, ho, hown, hbx⟩ := hcut
    have Hin2 := Lib.hid (fun nm (hm : nm ∈ o) => Hin.out nm (by rw [← ho.out]; exact hm))
    have HPx := Lib.hid (HP.out.next hbx.out)
    have HHx := Lib.hid (Has.of_own hown.out)
    have hlo := Lib.hid (own_len hown.out)
    have e0 : Hid ((liveK (L.map NodE.x) copies ps key).map (locOf ls ps) = (o.filter (upP' ps)).map (locOf ls ps)) := Lib.hid (by rw [ho.out]; rfl)
    have hom : Hid (o.length ≤ 20) := Lib.hid (by rw [ho.out]; unfold ownK; rw [List.length_take]; omega)
    obtain ⟨m, hm⟩ : ∃ m, o.length = m := ⟨_, rfl⟩
    have Hm := Lib.hid hm
    have hm20 : m ≤ 20 := by rw [← hm]; exact hom.out
    rw [hm]
    clear hm HP Hin HQ HOf HR hown hcv o1 ho
    go_wp2_with fail
    go_loopw [11, 29] (fun v i wr => ∃ (j q e : Nat) (O : Option Addr), j ≤ m ∧ q ≤ j ∧ i = .int .i64 (j : Nat) ∧ v = .slice O q e ∧ Hid (((o.take j).filter (upP' ps)).length = q) ∧ Hid (wr.ownsRow wc.heap.size 72 1 (.slice O q e) q (ptrCs (((o.take j).filter (upP' ps)).map (locOf ls ps)))) ∧ Hid (Below wc.heap.size wc wr)) (fun _ i _ => m + 5 - (intOf i).toNat)
    case atStart => exact ⟨0, 0, 0, none, by omega, by omega, rfl, rfl, Lib.hid rfl, Lib.hid (World.ownsRow_nil _ _ _ _), Lib.hid (Below.refl _ _)⟩
    case round =>
      obtain ⟨j, q, e, O, hj, hqj, rfl, rfl, hq, hO, hbr⟩ := hrel
      by_cases hlt : (j : Int) < (m : Int)
      · have hjl : j < o.length := by rw [Hm.out]; omega
        obtain ⟨ad, rfl, _, c0⟩ := (HHx.out.next hbr.out).at (strCs_atO hjl)
        have hfs := Lib.hid (filter_snoc (upP' ps) hjl)
        obtain ⟨hsz, hne⟩ := Hin2.out _ (at_mem hjl)
        obtain ⟨nm, hnm⟩ : ∃ nm, at_ o j = nm := ⟨_, rfl⟩
        rw [hnm] at c0 hfs hsz hne
        rcases peer_look (HPx.out.next hbr.out) nm hsz with ⟨h1, _⟩ | ⟨p, _, _, h3, h4, hr⟩
        · exact absurd h1 hne
        have hup : Hid (upP' ps nm = p.up) := Lib.hid (by unfold upP'; rw [h3])
        obtain ⟨lc, hlc⟩ : ∃ lc, locOf ls ps nm = lc := ⟨_, rfl⟩
        rw [hlc] at h4 hr
        have Hlc := Lib.hid hlc
        have c1 : wr.cell? ⟨lc.1, 1, none⟩ = some (.bool p.up) := h4.blk.cell 1
        obtain ⟨up, hu⟩ : ∃ up, p.up = up := ⟨_, rfl⟩
        rw [hu] at c1 hup
        have q0 : (0 : Int) ≤ (j : Int) := by omega
        have h8 : (q + 1) * 8 ≤ 140737488355328 := by omega
        have h63 : q + 1 ≤ maxLen := by unfold maxLen; omega
        have hbs := hbr.out.size
        clear hnm hne h3 h4 hu hlc
        cases up with
        | false =>
          have hz := hfs.out
          rw [hup.out, if_neg (by simp), List.append_nil] at hz
          have hz := Lib.hid hz
          go_wp2_with fail
          go_roundw
          case rel => exact ⟨j + 1, q, e, O, by omega, by omega, by go_num, rfl, Lib.hid (by rw [hz.out]; exact hq.out), Lib.hid (by rw [hz.out]; exact hO.out), hbr⟩
          case measure => simp [intOf]; omega
        | true =>
          have hz := hfs.out
          rw [hup.out, if_pos rfl] at hz
          have hz := Lib.hid hz
          go_wp2_with (at_builtin; refine wpList_append1 rfl _ _ _ rfl elPeer (v := .slice O q e) rfl hO.out rfl rfl rfl ?_ ?k1 ?k2 ?k3 ?k4; intro A7 c7 w7 hown7 hgrow7 hbel7)
          case k1 => rfl
          case k2 => exact h8
          case k3 => exact h63
          case k4 => exact hbs
          have HO7 := Lib.hid hown7
          have HB7 := Lib.hid (hbr.out.trans hbel7)
          clear hown7 hgrow7 hbel7
          go_wp2_with fail
          go_roundw
          case rel => exact ⟨j + 1, q + 1, c7, A7, by omega, by omega, by go_num, rfl, Lib.hid (by rw [hz.out, List.length_append, hq.out]; rfl), Lib.hid (by rw [hz.out, List.map_append, List.map_cons, List.map_nil, ptrCs_snoc, Hlc.out]; exact HO7.out), HB7⟩
          case measure => simp [intOf]; omega
      · obtain rfl : j = m := by omega
        have hz := hO.out
        have hq2 := hq.out
        rw [show o.take j = o by rw [← Hm.out, List.take_length]] at hz hq2
        go_wp2_with fail
        go_ret
        rw [e0.out]
        refine RV.mk ⟨O, e, ?_, ?_, bnext hbx.out hbr.out⟩
        · rw [List.length_map, hq2]
          rfl
        · rw [List.length_map, hq2]
          exact own_less hz hbx.out.size
end Go.Proofs.YtihjgbhnlejhfaaGreatDoor
namespace Go.Proofs.YtihjgbhnlejhfaaGreatDoor
open Go.RowKit Go.ChangeMaps

/-- a peer with few puts, each taken -/
def PeerOk (p : Peer) : Prop := p.qs.length ≤ 22 ∧ ∀ q ∈ p.qs, SmpIn q.2
theorem PeerOk.inv {p : Peer} (h : PeerOk p) : InvS (p.st, p.dk) p.qs.length := by
  have := InvS.run p.qs h.2 InvS.nil
  rw [Nat.zero_add] at this
  exact this
theorem PeerOk.ok {p : Peer} (h : PeerOk p) : StOk p.st := h.inv.ok (by have := h.1; omega)
theorem PeerOk.disk {p : Peer} (h : PeerOk p) : p.dk.length ≤ 28000 := by
  have h1 := h.inv.disk
  have h2 := h.1
  simp only [] at h1
  omega
def Peer.put (p : Peer) (q : Pt) : Peer := { p with qs := p.qs ++ [q] }
theorem Peer.put_run (p : Peer) (L : List Lab) (x : Smp) : (putN (p.st, p.dk) L x).1 = ((p.put (L, x)).st, (p.put (L, x)).dk) := (runN_snoc ([], []) p.qs (L, x)).symm
def KeepP (base pb g : Nat) (p : Peer) (w w' : World) : Prop := PeerAt w' base pb g p ∧ OutS base g w w'
set_option maxRecDepth 1000000 in
set_option maxHeartbeats 4000000 in
theorem keep_any (base pb g : Nat) (p : Peer) (hp : PeerOk p) (A : Option Addr) (n c : Nat) (L : List Lab) (hn : L.length = n) (hl : n ≤ maxLen) (hA : A = none → n = 0 ∧ c = 0) (x : Smp) (hx : SmpIn x) (hok : okP (L, x)) (hL : ∀ e ∈ L, LabOk e) (w : World) (hP : PeerAt w base pb g p) (hbase : base ≤ w.heap.size) (h : Has w w.heap.size A (labCs L)) (tS : SgAt w) :
    Calls Tryz.prog 40 #[.pointer (some ⟨pb, 0, none⟩), .slice A n c, .agg #[.int .i64 x.t, .int .i64 x.v]] w (R1 (.bool true) (KeepP base pb g (p.put (L, x)) w)) := by
  obtain ⟨W0, hW0⟩ : ∃ W0, w.alloc (.cells #[.int .i64 x.t, .int .i64 x.v] 26) = W0 := ⟨_, rfl⟩
  obtain ⟨q, hq⟩ : ∃ q, w.heap.size = q := ⟨_, rfl⟩
  have hb0 : Below w.heap.size w W0 := by rw [← hW0]; exact one_allocB _ _
  have kx : Blk W0 q 26 #[.int .i64 x.t, .int .i64 x.v] := by rw [← hW0]; exact Blk.newD _ _ _ _ hq
  have x0 : W0.cell? ⟨q, 0, none⟩ = some (.int .i64 x.t) := kx.cell 0
  have x1 : W0.cell? ⟨q, 1, none⟩ = some (.int .i64 x.v) := kx.cell 1
  have hP0 := hP.next hb0
  have p0 : W0.cell? ⟨pb, 0, none⟩ = some (.pointer (some ⟨g, 0, none⟩)) := hP0.blk.cell 0
  have hb1 : Below w.heap.size w (W0.drewN 1) := below_drewN hb0 1
  have hPut := put_store base g p.dk p.dk.length p.st hp.ok hp.disk A n c L hn hl hA x hx hL (W0.drewN 1) (hP.next hb1).st (Nat.le_trans hbase hb1.size) (h.next hb1) (tS.next hb1)
  rw [putN_ok hok] at hPut
  have hrun : (addN p.st L x, p.dk ++ frameL (recN L x)) = ((p.put (L, x)).st, (p.put (L, x)).dk) := by
    have h1 := Peer.put_run p L x
    rw [putN_ok hok] at h1
    exact h1
  simp only [] at hPut
  rw [hrun] at hPut
  unfold PutP at hPut
  simp only [] at hPut
  obtain ⟨p2, hp2⟩ : ∃ p2, p.put (L, x) = p2 := ⟨_, rfl⟩
  have hup : p2.up = p.up := by rw [← hp2]; rfl
  rw [hp2] at hPut ⊢
  have hPut := Lib.hid hPut
  have hS0 := Lib.hid (OutS.ofM hb1 hbase hP.st)
  have hblk := Lib.hid (hP.next hb1).blk
  have hopb := hP.opb
  have HW0 := Lib.hid hW0
  have Hq := Lib.hid hq
  have Hup := Lib.hid hup
  clear hP hP0 h tS hL hok hx hp hrun hp2 hup hW0 hq hb0 hb1 kx hA hn hl hbase
  go_enter Tryz.func40, Tryz.ntmps40
  go_upto_region 1 with fail
  rw [HW0.out, Hq.out]
  go_still_tail 6, (by kernel_rfl)
  change wpList _ _ _ _ _ (W0.drewN 1)
  go_wp2_with fail
  refine hPut.out.mono ?_
  rintro e w2 ⟨rfl, hM2, hO2⟩
  have k2 := hO2.blk hblk.out (by unfold StKind; decide)
  have p0 : w2.cell? ⟨pb, 0, none⟩ = some (.pointer (some ⟨g, 0, none⟩)) := k2.cell 0
  have hSy := Lib.hid (sync_store base g _ _ _ w2 hM2)
  have k2 := Lib.hid k2
  have hO2 := Lib.hid hO2
  go_wp2_with fail
  refine hSy.out.mono ?_
  rintro e w3 ⟨rfl, hM3, hO3⟩
  have k3 := Lib.hid (hO3.blk k2.out (by unfold StKind; decide))
  have hM3 := Lib.hid hM3
  have hO3 := Lib.hid (hS0.out.trans (hO2.out.trans hO3))
  go_wp2_with fail
  go_ret
  exact R1.mk rfl ⟨⟨by rw [Hup.out]; exact k3.out, hM3.out, hopb⟩, hO3.out⟩
end Go.Proofs.YtihjgbhnlejhfaaGreatDoor
namespace Go.Proofs.YtihjgbhnlejhfaaGreatDoor
open Go.RowKit Go.ChangeMaps

theorem StM.foot_lt {w : World} {base g : Nat} {dk : List Nat} {sf : Int} {st : StD} (h : StM w base g dk sf st) : ∀ q ∈ footS w g, q < w.heap.size := by
  obtain ⟨b, dg, A, c, es, clock, kvs, h⟩ := h
  intro q hq
  rw [h.foot] at hq
  simp only [List.mem_cons, Option.mem_toList] at hq
  rcases hq with e | e | e | e
  · rw [e]; exact h.obj.lt
  · rw [e]; exact (Array.getElem?_eq_some_iff.1 h.mp).1
  · rw [e]; exact h.disk.1.lt
  · have e2 : (Value.slice A dk.length c).ownBlock = some q := by
      cases A with
      | none => cases e
      | some a => simpa [Value.ownBlock] using e
    obtain ⟨cs, hc⟩ := own_kindS h.disk.2 q e2
    exact (Array.getElem?_eq_some_iff.1 hc).1
/-- another peer in the place of the one of that name -/
def setP (ps : List Peer) (p2 : Peer) : List Peer := ps.map fun p : Peer => if p.nm = p2.nm then p2 else p
theorem setP_no {ps : List Peer} {p2 : Peer} (h : ∀ p ∈ ps, p.nm ≠ p2.nm) : setP ps p2 = ps := by
  unfold setP
  induction ps with
  | nil => rfl
  | cons p ps ih => rw [List.map_cons, if_neg (h p List.mem_cons_self), ih fun q hq => h q (List.mem_cons_of_mem _ hq)]
theorem PRows.names {w : World} {base : Nat} {kvs : List (Value × Value)} {ls : List (Nat × Nat)} {ps : List Peer} (h : PRows w base kvs ls ps) : kvs.map (·.1) = ps.map fun p : Peer => Value.string p.nm := by
  induction h with
  | nil => rfl
  | cons _ _ ih => rw [List.map_cons, List.map_cons, ih]
/-- all peers stand while a store apart from theirs is worked on -/
theorem PRows.out {w w' : World} {base b2 g2 : Nat} {kvs : List (Value × Value)} {ls : List (Nat × Nat)} {ps : List Peer} (h : PRows w base kvs ls ps) (hO : OutS b2 g2 w w') (hd : ∀ f ∈ ls.map (fun l => footS w l.2), ∀ q ∈ f, q ∉ footS w g2) :
    PRows w' base kvs ls ps ∧ (ls.map fun l => footS w' l.2) = ls.map fun l => footS w l.2 := by
  induction h with
  | nil => exact ⟨.nil, rfl⟩
  | @cons l p kvs ls ps h1 _ ih =>
    have hd1 := hd (footS w l.2) (by rw [List.map_cons]; exact List.mem_cons_self)
    obtain ⟨i1, i2⟩ := ih fun f hf => hd f (by rw [List.map_cons]; exact List.mem_cons_of_mem _ hf)
    exact ⟨.cons (h1.out hO hd1) i1, by rw [List.map_cons, List.map_cons, i2, (h1.st.out hO hd1).2]⟩
theorem PRows.lt {w : World} {base : Nat} {kvs : List (Value × Value)} {ls : List (Nat × Nat)} {ps : List Peer} (h : PRows w base kvs ls ps) : ∀ f ∈ ls.map (fun l => footS w l.2), ∀ q ∈ f, q < w.heap.size := by
  induction h with
  | nil => intro f hf; cases hf
  | cons h1 _ ih =>
    intro f hf
    rw [List.map_cons] at hf
    rcases List.mem_cons.1 hf with e | e
    · rw [e]; exact h1.st.foot_lt
    · exact ih f e
theorem locOf_mem : ∀ {ls : List (Nat × Nat)} {ps : List Peer} {nm : ByteArray}, ls.length = ps.length → (∃ p ∈ ps, p.nm = nm) → locOf ls ps nm ∈ ls
  | [], [], _, _, h => by obtain ⟨p, hp, _⟩ := h; cases hp
  | [], _ :: _, _, h, _ => by simp at h
  | _ :: _, [], _, h, _ => by simp at h
  | l :: ls, p :: ps, nm, hl, h => by
    unfold locOf
    split
    · exact List.mem_cons_self
    · rename_i hne
      obtain ⟨q, hq, e⟩ := h
      rcases List.mem_cons.1 hq with e2 | e2
      · rw [e2] at e; exact absurd e hne
      · exact List.mem_cons_of_mem _ (locOf_mem (by simpa using hl) ⟨q, e2, e⟩)
theorem PRows.len2 {w : World} {base : Nat} {kvs : List (Value × Value)} {ls : List (Nat × Nat)} {ps : List Peer} (h : PRows w base kvs ls ps) : ls.length = ps.length := by
  induction h with
  | nil => rfl
  | cons _ _ ih => rw [List.length_cons, List.length_cons, ih]
/-- a step at the peer of a name -/
theorem PRows.step {w w' : World} {base : Nat} {p2 : Peer} {kvs : List (Value × Value)} {ls : List (Nat × Nat)} {ps : List Peer} (h : PRows w base kvs ls ps) (hn : (ps.map fun p : Peer => Value.string p.nm).Nodup) (hex : ∃ p ∈ ps, p.nm = p2.nm)
    (ha : (ls.map fun l => footS w l.2).Pairwise fun a b => ∀ q ∈ a, q ∉ b) (hP : PeerAt w' base (locOf ls ps p2.nm).1 (locOf ls ps p2.nm).2 p2) (hO : OutS base (locOf ls ps p2.nm).2 w w') :
    PRows w' base kvs ls (setP ps p2) ∧ ((ls.map fun l => footS w' l.2).Pairwise fun a b => ∀ q ∈ a, q ∉ b) ∧ ∀ f ∈ ls.map (fun l => footS w' l.2), ∀ q ∈ f, (∃ f0 ∈ ls.map (fun l => footS w l.2), q ∈ f0) ∨ w.heap.size ≤ q := by
  induction h with
  | nil => obtain ⟨p, hp, _⟩ := hex; cases hp
  | @cons l p kvs ls ps h1 h2 ih =>
    rw [List.map_cons] at hn ha
    obtain ⟨n1, n2⟩ := List.nodup_cons.1 hn
    obtain ⟨a1, a2⟩ := List.pairwise_cons.1 ha
    by_cases he : p.nm = p2.nm
    · have hloc : locOf (l :: ls) (p :: ps) p2.nm = l := by unfold locOf; rw [if_pos he]
      rw [hloc] at hP hO
      have hno : ∀ q ∈ ps, q.nm ≠ p2.nm := fun q hq e => n1 (List.mem_map.2 ⟨q, hq, by rw [e, he]⟩)
      obtain ⟨i1, i2⟩ := h2.out hO fun f hf q hq hq2 => a1 f hf q hq2 hq
      have hs : setP (p :: ps) p2 = p2 :: ps := by
        show (if p.nm = p2.nm then p2 else p) :: setP ps p2 = _
        rw [if_pos he, setP_no hno]
      refine ⟨?_, ?_, ?_⟩
      · rw [hs, he]
        exact .cons hP i1
      · rw [List.map_cons, i2]
        refine List.pairwise_cons.2 ⟨fun f hf q hq hq2 => ?_, a2⟩
        rcases hO.grow q hq with e | e
        · exact a1 f hf q e hq2
        · have := h2.lt f hf q hq2; omega
      · intro f hf q hq
        rw [List.map_cons, i2] at hf
        rcases List.mem_cons.1 hf with e | e
        · rw [e] at hq
          rcases hO.grow q hq with e2 | e2
          · exact .inl ⟨_, by rw [List.map_cons]; exact List.mem_cons_self, e2⟩
          · exact .inr e2
        · exact .inl ⟨f, by rw [List.map_cons]; exact List.mem_cons_of_mem _ e, hq⟩
    · have hloc : locOf (l :: ls) (p :: ps) p2.nm = locOf ls ps p2.nm := by
        show (if p.nm = p2.nm then l else locOf ls ps p2.nm) = _
        rw [if_neg he]
      rw [hloc] at hP hO
      have hex2 : ∃ q ∈ ps, q.nm = p2.nm := by
        obtain ⟨q, hq, e⟩ := hex
        rcases List.mem_cons.1 hq with e2 | e2
        · rw [e2] at e; exact absurd e he
        · exact ⟨q, e2, e⟩
      have hlm : footS w (locOf ls ps p2.nm).2 ∈ ls.map (fun l => footS w l.2) := List.mem_map.2 ⟨_, locOf_mem h2.len2 hex2, rfl⟩
      have hd := a1 _ hlm
      obtain ⟨i1, i2, i3⟩ := ih n2 hex2 a2 hP hO
      have hf2 := (h1.st.out hO hd).2
      have hs : setP (p :: ps) p2 = p :: setP ps p2 := by
        show (if p.nm = p2.nm then p2 else p) :: setP ps p2 = _
        rw [if_neg he]
      refine ⟨?_, ?_, ?_⟩
      · rw [hs]
        exact .cons (h1.out hO hd) i1
      · rw [List.map_cons, hf2]
        refine List.pairwise_cons.2 ⟨fun f hf q hq hq2 => ?_, i2⟩
        rcases i3 f hf q hq2 with ⟨f0, h3, h4⟩ | h3
        · exact a1 f0 h3 q hq h4
        · have := h1.st.foot_lt q hq; omega
      · intro f hf q hq
        rw [List.map_cons, hf2] at hf
        rcases List.mem_cons.1 hf with e | e
        · rw [e] at hq
          exact .inl ⟨_, by rw [List.map_cons]; exact List.mem_cons_self, hq⟩
        · rcases i3 f e q hq with ⟨f0, h3, h4⟩ | h3
          · exact .inl ⟨f0, by rw [List.map_cons]; exact List.mem_cons_of_mem _ h3, h4⟩
          · exact .inr h3
theorem PMap.step {w w' : World} {base mb : Nat} {es : Array MapEntry} {clock : Nat} {kvs : List (Value × Value)} {ls : List (Nat × Nat)} {ps : List Peer} (h : PMap w base mb es clock kvs ls ps) {p2 : Peer} (hex : ∃ p ∈ ps, p.nm = p2.nm)
    (hP : PeerAt w' base (locOf ls ps p2.nm).1 (locOf ls ps p2.nm).2 p2) (hO : OutS base (locOf ls ps p2.nm).2 w w') : PMap w' base mb es clock kvs ls (setP ps p2) := by
  have hn : (ps.map fun p : Peer => Value.string p.nm).Nodup := by rw [← h.prs.names]; exact h.nodup
  obtain ⟨i1, i2, i3⟩ := h.prs.step hn hex h.apart hP hO
  have hlm := locOf_mem h.prs.len2 hex
  have hml := (Array.getElem?_eq_some_iff.1 h.mp).1
  exact {
    mp := (hO.block mb hml (h.mapart _ hlm)).trans h.mp
    shape := h.shape
    prs := i1
    apart := i2
    mapart := fun l hl hm => by
      rcases i3 (footS w' l.2) (List.mem_map.2 ⟨l, hl, rfl⟩) mb hm with ⟨f0, h3, h4⟩ | h3
      · obtain ⟨l0, hl0, rfl⟩ := List.mem_map.1 h3
        exact h.mapart l0 hl0 h4
      · omega
    om := h.om }
end Go.Proofs.YtihjgbhnlejhfaaGreatDoor
namespace Go.Proofs.YtihjgbhnlejhfaaGreatDoor
open Go.RowKit Go.ChangeMaps

/-- only a block of another kind than a store's changed -/
theorem StM.only {w w' : World} {base g pb : Nat} {dk : List Nat} {sf : Int} {st : StD} {cs : Array Value} {t : TypeId} (h : StM w base g dk sf st) (hk : Blk w pb t cs) (ht : ¬ StKind t) (hl : t ≠ 85 ∧ t ≠ 26) (hb : ∀ q, q ≠ pb → w'.heap[q]? = w.heap[q]?) : StM w' base g dk sf st ∧ footS w' g = footS w g := by
  obtain ⟨b, dg, A, c, es, clock, kvs, h⟩ := h
  have hk' := blk_cells hk
  have hne : ∀ (q : Nat) (cs2 : Array Value) (t2 : TypeId), w.heap[q]? = some (Obj.cells cs2 t2 (0, 0)) → t2 ≠ t → q ≠ pb := fun q cs2 t2 hq h2 e => by
    subst e
    rw [hk'] at hq
    injection hq with hq
    injection hq with _ hq
    exact h2 hq.symm
  have hS : StAt w' base g b dg A c es clock kvs dk sf st := {
    obj := (hb g (hne g _ _ (blk_cells h.obj) (fun e => ht (.inl e.symm)))).trans h.obj
    mp := (hb b (fun e => by subst e; rw [h.mp] at hk'; cases hk')).trans h.mp
    shape := h.shape
    rows := h.rows.keep fun v y hs => by
      obtain ⟨A1, n1, c1, A2, n2, c2, h1, h2, h3, h4, h5⟩ := hs
      refine ⟨A1, n1, c1, A2, n2, c2, h1, h2, h3, own_keepS h4 fun q hq => ?_, own_keepS h5 fun q hq => ?_⟩
      · obtain ⟨cs2, hc⟩ := own_kindS h4 q hq
        exact hb q (hne q _ _ hc (fun e => hl.1 e.symm))
      · obtain ⟨cs2, hc⟩ := own_kindS h5 q hq
        exact hb q (hne q _ _ hc (fun e => hl.2 e.symm))
    disk := ⟨(hb dg (hne dg _ _ (blk_cells h.disk.1) (fun e => ht (.inr (.inl e.symm))))).trans h.disk.1, own_keepS h.disk.2 fun q hq => by
      obtain ⟨cs2, hc⟩ := own_kindS h.disk.2 q hq
      exact hb q (hne q _ _ hc (fun e => ht (.inr (.inr e.symm))))⟩
    og := h.og
    ob := h.ob
    od := h.od }
  exact ⟨⟨b, dg, A, c, es, clock, kvs, hS⟩, by rw [hS.foot, h.foot]⟩
/-- a peer's mark -/
def Peer.mark (p : Peer) (up : Bool) : Peer := { p with up := up }
theorem PeerAt.mark {w : World} {base pb g : Nat} {p : Peer} (h : PeerAt w base pb g p) (up : Bool) : PeerAt (w.setCell ⟨pb, 1, none⟩ (.bool up)) base pb g (p.mark up) :=
  ⟨h.blk.set 1 _, (h.st.only h.blk (by unfold StKind; decide) (by decide) (fun q hq => Below.heap_setCell w ⟨pb, 1, none⟩ _ q hq)).1, h.opb⟩
theorem PRows.at {w : World} {base : Nat} {kvs : List (Value × Value)} {ls : List (Nat × Nat)} {ps : List Peer} (h : PRows w base kvs ls ps) {nm : ByteArray} (hex : ∃ p ∈ ps, p.nm = nm) : ∃ p, findP ps nm = some p ∧ PeerAt w base (locOf ls ps nm).1 (locOf ls ps nm).2 p := by
  induction h with
  | nil => obtain ⟨p, hp, _⟩ := hex; cases hp
  | @cons l p kvs ls ps h1 _ ih =>
    show ∃ q, findP (p :: ps) nm = some q ∧ PeerAt w base (if p.nm = nm then l else locOf ls ps nm).1 (if p.nm = nm then l else locOf ls ps nm).2 q
    unfold findP at ih ⊢
    rw [List.find?_cons]
    by_cases he : p.nm = nm
    · rw [if_pos he, decide_eq_true he]
      exact ⟨p, rfl, h1⟩
    · rw [if_neg he, decide_eq_false he]
      refine ih ?_
      obtain ⟨q, hq, e⟩ := hex
      rcases List.mem_cons.1 hq with e2 | e2
      · rw [e2] at e; exact absurd e he
      · exact ⟨q, e2, e⟩
theorem foot_self (w : World) (g : Nat) : g ∈ footS w g := List.mem_cons_self
theorem blk_two {w : World} {pb : Nat} {g g0 : Nat} {u v : Value} (h : Blk w pb 99 #[.pointer (some ⟨g, 0, none⟩), u]) (k : Blk w pb 99 #[.pointer (some ⟨g0, 0, none⟩), v]) : g = g0 := by
  have h1 := blk_cells h
  rw [blk_cells k] at h1
  simp at h1
  exact h1.1.symm
theorem PRows.other {w w' : World} {base pb g0 : Nat} {u : Value} {kvs : List (Value × Value)} {ls : List (Nat × Nat)} {ps : List Peer} (h : PRows w base kvs ls ps) (hk : Blk w pb 99 #[.pointer (some ⟨g0, 0, Option.none⟩), u])
    (hd : ∀ f ∈ ls.map (fun l => footS w l.2), g0 ∉ f) (hb : ∀ q, q ≠ pb → w'.heap[q]? = w.heap[q]?) : PRows w' base kvs ls ps ∧ (ls.map fun l => footS w' l.2) = ls.map fun l => footS w l.2 := by
  induction h with
  | nil => exact ⟨.nil, rfl⟩
  | @cons l p kvs ls ps h1 _ ih =>
    obtain ⟨i1, i2⟩ := ih fun f hf => hd f (by rw [List.map_cons]; exact List.mem_cons_of_mem _ hf)
    have hne : l.1 ≠ pb := fun e => by
      have h2 := h1.blk
      rw [e] at h2
      have h3 := blk_two h2 hk
      exact hd (footS w l.2) (by rw [List.map_cons]; exact List.mem_cons_self) (by rw [← h3]; exact foot_self w l.2)
    obtain ⟨s1, s2⟩ := h1.st.only hk (by unfold StKind; decide) (by decide) hb
    exact ⟨.cons ⟨(hb _ hne).trans h1.blk, s1, h1.opb⟩ i1, by rw [List.map_cons, List.map_cons, i2, s2]⟩
theorem setUp_no {ps : List Peer} {nm : ByteArray} {up : Bool} (h : ∀ p ∈ ps, p.nm ≠ nm) : setUp ps nm up = ps := by
  unfold setUp
  induction ps with
  | nil => rfl
  | cons p ps ih => rw [List.map_cons, if_neg (h p List.mem_cons_self), ih fun q hq => h q (List.mem_cons_of_mem _ hq)]
theorem PRows.mark {w : World} {base : Nat} {nm : ByteArray} (up : Bool) {kvs : List (Value × Value)} {ls : List (Nat × Nat)} {ps : List Peer} (h : PRows w base kvs ls ps) (hn : (ps.map fun p : Peer => Value.string p.nm).Nodup) (hex : ∃ p ∈ ps, p.nm = nm)
    (ha : (ls.map fun l => footS w l.2).Pairwise fun a b => ∀ q ∈ a, q ∉ b) {w' : World} (hw : w' = w.setCell ⟨(locOf ls ps nm).1, 1, Option.none⟩ (.bool up)) :
    PRows w' base kvs ls (setUp ps nm up) ∧ (ls.map fun l => footS w' l.2) = ls.map fun l => footS w l.2 := by
  induction h with
  | nil => obtain ⟨p, hp, _⟩ := hex; cases hp
  | @cons l p kvs ls ps h1 h2 ih =>
    rw [List.map_cons] at hn ha
    obtain ⟨n1, n2⟩ := List.nodup_cons.1 hn
    obtain ⟨a1, a2⟩ := List.pairwise_cons.1 ha
    by_cases he : p.nm = nm
    · have hloc : locOf (l :: ls) (p :: ps) nm = l := by unfold locOf; rw [if_pos he]
      rw [hloc] at hw
      subst hw
      have hno : ∀ q ∈ ps, q.nm ≠ nm := fun q hq e => n1 (List.mem_map.2 ⟨q, hq, by rw [e, he]⟩)
      obtain ⟨i1, i2⟩ := h2.other h1.blk (fun f hf hq => a1 f hf l.2 (foot_self w l.2) hq) (fun q hq => Below.heap_setCell w ⟨l.1, 1, Option.none⟩ (.bool up) q hq)
      have hs : setUp (p :: ps) nm up = p.mark up :: ps := by
        show (if p.nm = nm then p.mark up else p) :: setUp ps nm up = _
        rw [if_pos he, setUp_no hno]
      have hm := h1.mark up
      rw [hs]
      refine ⟨.cons hm i1, ?_⟩
      rw [List.map_cons, List.map_cons, i2, (h1.st.only h1.blk (by unfold StKind; decide) (by decide) (fun q hq => Below.heap_setCell w ⟨l.1, 1, Option.none⟩ (.bool up) q hq)).2]
    · have hloc : locOf (l :: ls) (p :: ps) nm = locOf ls ps nm := by
        show (if p.nm = nm then l else locOf ls ps nm) = _
        rw [if_neg he]
      rw [hloc] at hw
      have hex2 : ∃ q ∈ ps, q.nm = nm := by
        obtain ⟨q, hq, e⟩ := hex
        rcases List.mem_cons.1 hq with e2 | e2
        · rw [e2] at e; exact absurd e he
        · exact ⟨q, e2, e⟩
      obtain ⟨i1, i2⟩ := ih n2 hex2 a2 hw
      obtain ⟨p9, _, hp9⟩ := h2.at hex2
      have hlm : footS w (locOf ls ps nm).2 ∈ ls.map (fun l => footS w l.2) := List.mem_map.2 ⟨_, locOf_mem h2.len2 hex2, rfl⟩
      have hne : l.1 ≠ (locOf ls ps nm).1 := fun e => by
        have h3 := h1.blk
        rw [e] at h3
        have h4 := blk_two h3 hp9.blk
        exact a1 _ hlm l.2 (foot_self w l.2) (by rw [h4]; exact foot_self w _)
      have hb : ∀ q, q ≠ (locOf ls ps nm).1 → w'.heap[q]? = w.heap[q]? := fun q hq => by rw [hw]; exact Below.heap_setCell w ⟨_, 1, Option.none⟩ (.bool up) q hq
      obtain ⟨s1, s2⟩ := h1.st.only hp9.blk (by unfold StKind; decide) (by decide) hb
      have hs : setUp (p :: ps) nm up = p :: setUp ps nm up := by
        show (if p.nm = nm then { p with up := up } else p) :: setUp ps nm up = _
        rw [if_neg he]
      rw [hs]
      exact ⟨.cons ⟨(hb _ hne).trans h1.blk, s1, h1.opb⟩ i1, by rw [List.map_cons, List.map_cons, i2, s2]⟩
end Go.Proofs.YtihjgbhnlejhfaaGreatDoor
namespace Go.Proofs.YtihjgbhnlejhfaaGreatDoor
open Go.RowKit Go.ChangeMaps

/-- kinds of blocks that a house writes -/
def HsKind (t : TypeId) : Prop := StKind t ∨ t = 99 ∨ t = 71
/-- what a house's methods leave alone: what lay before the house, and blocks of other kinds -/
structure OutH (base : Nat) (w w' : World) : Prop where
  os : w'.os = w.os
  tape : w'.tape = w.tape
  output : w'.output = w.output
  size : w.heap.size ≤ w'.heap.size
  low : ∀ k, k < base → w'.heap[k]? = w.heap[k]?
  kinds : ∀ (k : Nat) (cs : Array Value) (t : TypeId) (fr : Nat × Nat), w.heap[k]? = some (Obj.cells cs t fr) → ¬ HsKind t → w'.heap[k]? = w.heap[k]?
theorem OutH.refl (base : Nat) (w : World) : OutH base w w := ⟨rfl, rfl, rfl, Nat.le_refl _, fun _ _ => rfl, fun _ _ _ _ _ _ => rfl⟩
theorem OutH.trans {base : Nat} {a b c : World} (h : OutH base a b) (k : OutH base b c) : OutH base a c :=
  ⟨k.os.trans h.os, k.tape.trans h.tape, k.output.trans h.output, Nat.le_trans h.size k.size, fun q hq => (k.low q hq).trans (h.low q hq), fun q cs t fr hq ht => (k.kinds q cs t fr ((h.kinds q cs t fr hq ht).trans hq) ht).trans (h.kinds q cs t fr hq ht)⟩
theorem OutH.of {base : Nat} {w w' : World} (h : Below w.heap.size w w') (hb : base ≤ w.heap.size) : OutH base w w' :=
  ⟨h.os, h.tape, h.output, h.size, fun k hk => h.block k (Nat.lt_of_lt_of_le hk hb), fun k _ _ _ hk _ => h.block k (Array.getElem?_eq_some_iff.1 hk).1⟩
theorem OutH.ofS {base g : Nat} {w w' : World} (h : OutS base g w w') : OutH base w w' := ⟨h.os, h.tape, h.output, h.size, h.low, fun k cs t fr hk ht => h.kinds k cs t fr hk fun e => ht (.inl e)⟩
theorem blk_only {w w' : World} {pb q : Nat} {t t2 : TypeId} {cs cs2 : Array Value} (hk : Blk w pb t cs) (h : Blk w q t2 cs2) (hne : t2 ≠ t) (hb : ∀ q, q ≠ pb → w'.heap[q]? = w.heap[q]?) : Blk w' q t2 cs2 :=
  (hb q fun e => by
    subst e
    have h1 := blk_cells hk
    rw [blk_cells h] at h1
    injection h1 with h1
    injection h1 with _ h1
    exact hne h1).trans h
theorem own_only {w w' : World} {pb base size n : Nat} {t t2 : TypeId} {cs : Array Value} {v : Value} {xs : List Value} (hk : Blk w pb t cs) (h : w.ownsRow base t2 size v n xs) (hne : t2 ≠ t) (hb : ∀ q, q ≠ pb → w'.heap[q]? = w.heap[q]?) : w'.ownsRow base t2 size v n xs :=
  own_keepS h fun q hq => by
    obtain ⟨cs2, hc⟩ := own_kindS h q hq
    refine hb q fun e => ?_
    subst e
    have h1 := blk_cells hk
    rw [hc] at h1
    injection h1 with h1
    injection h1 with _ h1
    exact hne h1
theorem PMap.mark {w : World} {base mb : Nat} {es : Array MapEntry} {clock : Nat} {kvs : List (Value × Value)} {ls : List (Nat × Nat)} {ps : List Peer} (h : PMap w base mb es clock kvs ls ps) {nm : ByteArray} (up : Bool) (hex : ∃ p ∈ ps, p.nm = nm) : PMap (w.setCell ⟨(locOf ls ps nm).1, 1, none⟩ (.bool up)) base mb es clock kvs ls (setUp ps nm up) := by
  have hn : (ps.map fun p : Peer => Value.string p.nm).Nodup := by rw [← h.prs.names]; exact h.nodup
  obtain ⟨i1, i2⟩ := h.prs.mark up hn hex h.apart rfl
  obtain ⟨p9, _, hp9⟩ := h.prs.at hex
  exact {
    mp := (Below.heap_setCell w ⟨(locOf ls ps nm).1, 1, Option.none⟩ _ mb (fun e => by
      have e : mb = (locOf ls ps nm).1 := e
      have h1 := blk_cells hp9.blk
      rw [← e, h.mp] at h1
      cases h1)).trans h.mp
    shape := h.shape
    prs := i1
    apart := by rw [i2]; exact h.apart
    mapart := fun l hl hm => by
      have e := List.mem_map_of_mem (f := fun l : Nat × Nat => footS (w.setCell ⟨(locOf ls ps nm).1, 1, Option.none⟩ (.bool up)) l.2) hl
      rw [i2] at e
      obtain ⟨l0, hl0, he⟩ := List.mem_map.1 e
      rw [← he] at hm
      exact h.mapart l0 hl0 hm
    om := h.om }
def Hse.mark (h : Hse) (nm : ByteArray) (up : Bool) : Hse := { h with ps := setUp h.ps nm up }
def setN (h : Hse) (nm : ByteArray) : Int := if (findP h.ps nm).isSome then 0 else 7
theorem find_none_all : ∀ {ps : List Peer} {nm : ByteArray}, findP ps nm = none → ∀ p ∈ ps, p.nm ≠ nm := fun h p hp e => by
  unfold findP at h
  have := List.find?_eq_none.1 h p hp
  simp [e] at this
theorem find_some_ex {ps : List Peer} {nm : ByteArray} {p : Peer} (h : findP ps nm = some p) : ∃ q ∈ ps, q.nm = nm := by
  unfold findP at h
  exact ⟨p, List.mem_of_find?_eq_some h, by simpa using List.find?_some h⟩
theorem HsAt.mark {w : World} {base hb mb : Nat} {A : Option Addr} {c : Nat} {L : List NodE} {es : Array MapEntry} {clock : Nat} {kvs : List (Value × Value)} {ls : List (Nat × Nat)} {h : Hse} (k : HsAt w base hb mb A c L es clock kvs ls h) {nm : ByteArray} (up : Bool) (hex : ∃ p ∈ h.ps, p.nm = nm) :
    HsAt (w.setCell ⟨(locOf ls h.ps nm).1, 1, none⟩ (.bool up)) base hb mb A c L es clock kvs ls (h.mark nm up) ∧ OutH base w (w.setCell ⟨(locOf ls h.ps nm).1, 1, none⟩ (.bool up)) := by
  obtain ⟨p9, _, hp9⟩ := k.peers.prs.at hex
  have hb9 : ∀ q, q ≠ (locOf ls h.ps nm).1 → (w.setCell ⟨(locOf ls h.ps nm).1, 1, Option.none⟩ (.bool up)).heap[q]? = w.heap[q]? := fun q hq => Below.heap_setCell w ⟨_, 1, Option.none⟩ (.bool up) q hq
  have hopb := hp9.opb
  refine ⟨⟨blk_only hp9.blk k.obj (by decide) hb9, k.nodes, own_only hp9.blk k.row (by decide) hb9, fun e he => ⟨own_only hp9.blk (k.tks e he).1 (by decide) hb9, (k.tks e he).2⟩, k.peers.mark up hex, k.oh⟩, rfl, rfl, rfl, by rw [World.size_setCell]; exact Nat.le_refl _, fun q hq => hb9 q (by omega), fun q cs t fr hq ht => hb9 q fun e => ?_⟩
  subst e
  have h1 := blk_cells hp9.blk
  rw [hq] at h1
  injection h1 with h1
  injection h1 with _ h1
  exact ht (.inr (.inl h1))
def SetP (base hb : Nat) (h : Hse) (w w' : World) : Prop := HsM w' base hb h ∧ OutH base w w'
set_option maxRecDepth 1000000 in
set_option maxHeartbeats 1000000 in
theorem hset_any (base hb : Nat) (h : Hse) (nm : ByteArray) (hk : nm.size ≤ maxLen) (up : Bool) (w : World) (hH : HsM w base hb h) :
    Calls Tryz.prog 58 #[.pointer (some ⟨hb, 0, none⟩), .string nm, .bool up] w (R1 (.int .i64 (setN h nm)) (SetP base hb (h.mark nm up) w)) := by
  obtain ⟨mb, A, c, L, es, clock, kvs, ls, k⟩ := hH
  have o4 : w.cell? ⟨hb, 4, none⟩ = some (.map (some mb)) := k.obj.cell 4
  rcases peer_look k.peers nm hk with ⟨h1, hr⟩ | ⟨p, _, _, h3, h4, hr⟩
  · have e1 : setN h nm = 7 := by unfold setN; rw [h1]; rfl
    have e2 : h.mark nm up = h := by unfold Hse.mark; rw [setUp_no (find_none_all h1)]
    rw [e1, e2]
    have hH := Lib.hid (show HsM w base hb h from ⟨mb, A, c, L, es, clock, kvs, ls, k⟩)
    clear k h1 e1 e2
    go_enter Tryz.func58, Tryz.ntmps58
    go_wp2_with fail
    go_ret
    exact R1.mk rfl ⟨hH.out, OutH.refl _ _⟩
  · have e1 : setN h nm = 0 := by unfold setN; rw [h3]; rfl
    rw [e1]
    obtain ⟨k1, k2⟩ := k.mark up (find_some_ex h3)
    obtain ⟨l, hl⟩ : ∃ l, locOf ls h.ps nm = l := ⟨_, rfl⟩
    rw [hl] at k1 k2 h4 hr
    have f1 : w.frozen? ⟨l.1, 1, none⟩ = false := h4.blk.frozen 1
    have c1 : w.cell? ⟨l.1, 1, none⟩ = some (.bool p.up) := h4.blk.cell 1
    have K1 := Lib.hid k1
    have K2 := Lib.hid k2
    clear k k1 k2 h3 h4 hl e1
    go_enter Tryz.func58, Tryz.ntmps58
    go_wp2_with fail
    go_ret
    exact R1.mk rfl ⟨⟨mb, A, c, L, es, clock, kvs, ls, K1.out⟩, K2.out⟩
set_option maxRecDepth 100000 in
theorem hdown_any (base hb : Nat) (h : Hse) (nm : ByteArray) (hk : nm.size ≤ maxLen) (w : World) (hH : HsM w base hb h) :
    Calls Tryz.prog 29 #[.pointer (some ⟨hb, 0, none⟩), .string nm] w (R1 (.int .i64 (setN h nm)) (SetP base hb (h.mark nm false) w)) := by
  have hS := Lib.hid (hset_any base hb h nm hk false w hH)
  clear hH
  go_enter Tryz.func29, Tryz.ntmps29
  go_wp2_with fail
  refine hS.out.mono ?_
  rintro e w1 ⟨rfl, hP⟩
  have hP := Lib.hid hP
  go_wp2_with fail
  go_ret
  exact R1.mk rfl hP.out
set_option maxRecDepth 100000 in
theorem hup_any (base hb : Nat) (h : Hse) (nm : ByteArray) (hk : nm.size ≤ maxLen) (w : World) (hH : HsM w base hb h) :
    Calls Tryz.prog 28 #[.pointer (some ⟨hb, 0, none⟩), .string nm] w (R1 (.int .i64 (setN h nm)) (SetP base hb (h.mark nm true) w)) := by
  have hS := Lib.hid (hset_any base hb h nm hk true w hH)
  clear hH
  go_enter Tryz.func28, Tryz.ntmps28
  go_wp2_with fail
  refine hS.out.mono ?_
  rintro e w1 ⟨rfl, hP⟩
  have hP := Lib.hid hP
  go_wp2_with fail
  go_ret
  exact R1.mk rfl hP.out
end Go.Proofs.YtihjgbhnlejhfaaGreatDoor
namespace Go.Proofs.YtihjgbhnlejhfaaGreatDoor
open Go.RowKit Go.ChangeMaps Go.Sort

theorem recsOf_appH (a b : List Pt) : recsOf (a ++ b) = recsOf a ++ recsOf b := by unfold recsOf; rw [List.map_append]
theorem recsOf_takeH (a : List Pt) (k : Nat) : (recsOf a).take k = recsOf (a.take k) := by unfold recsOf; rw [List.map_take]
theorem recsOf_lenH (a : List Pt) : (recsOf a).length = a.length := by unfold recsOf; rw [List.length_map]
theorem run_diskH : ∀ (ps : List Pt), (∀ p ∈ ps, okP p) → (runN ([], []) ps).2 = flatF (recsOf ps) := by
  intro ps
  refine snocRec (motive := fun ps => (∀ p ∈ ps, okP p) → (runN ([], []) ps).2 = flatF (recsOf ps)) ?_ ?_ ps
  · intro _; rfl
  · intro ps p ih h
    rw [runN_snoc, putN_ok (h p (by simp)), recsOf_appH, flatF_app, ← ih (fun q hq => h q (by simp [hq]))]
    show _ ++ frameL _ = _ ++ flatF [_]
    unfold flatF
    simp
theorem recs_shortH {ps : List Pt} (h : ∀ p ∈ ps, okP p ∧ SmpIn p.2) : ∀ r ∈ recsOf ps, r.length ≤ 2000 := by
  intro r hr
  unfold recsOf at hr
  obtain ⟨p, hp, rfl⟩ := List.mem_map.1 hr
  obtain ⟨h1, h2⟩ := h p hp
  obtain ⟨hc, _⟩ := enc_ok (L := p.1) (x := p.2) h1
  have := recN_len hc h2
  omega
theorem frameL_bytesKH {r : List Nat} (h : Bytes r) : Bytes (frameL r) := by
  unfold frameL
  intro x hx
  rcases List.mem_append.1 hx with hx | hx
  · rcases List.mem_append.1 hx with hx | hx
    · exact putL_bytes _ x hx
    · exact h x hx
  · exact be8_bytes _ x hx
theorem recs_bytesH (ps : List Pt) : Bytes (flatF (recsOf ps)) := by
  intro x hx
  unfold flatF at hx
  obtain ⟨r, hr, hx⟩ := List.mem_flatten.1 hx
  obtain ⟨q, hq, rfl⟩ := List.mem_map.1 hr
  obtain ⟨p, _, rfl⟩ := List.mem_map.1 hq
  exact frameL_bytesKH (recN_bytes _ _) x hx
/-- a peer whose puts were all taken -/
def PeerOk2 (p : Peer) : Prop := p.qs.length ≤ 22 ∧ ∀ q ∈ p.qs, okP q ∧ SmpIn q.2
theorem PeerOk2.ok {p : Peer} (h : PeerOk2 p) : PeerOk p := ⟨h.1, fun q hq => (h.2 q hq).2⟩
def crashN (h : Hse) (nm : ByteArray) (k : Int) : Int := match findP h.ps nm with | none => 7 | some _ => if k = 0 then 0 else 1
theorem setP_same {ps : List Peer} (hn : (ps.map fun p : Peer => Value.string p.nm).Nodup) {nm : ByteArray} {p : Peer} (h : findP ps nm = some p) : setP ps p = ps := by
  unfold findP at h
  have h1 := List.mem_of_find?_eq_some h
  unfold setP
  have e : ∀ q ∈ ps, (if q.nm = p.nm then p else q) = q := fun q hq => by
    by_cases he : q.nm = p.nm
    · rw [if_pos he]
      obtain ⟨i, hi, ei⟩ := List.getElem_of_mem h1
      obtain ⟨j, hj, ej⟩ := List.getElem_of_mem hq
      have hp := List.pairwise_iff_getElem.1 hn
      rcases Nat.lt_trichotomy i j with hlt | hlt | hlt
      · exact absurd (by rw [List.getElem_map, List.getElem_map, ei, ej, he]) (hp i j (by simpa using hi) (by simpa using hj) hlt)
      · subst hlt; rw [← ei, ← ej]
      · exact absurd (by rw [List.getElem_map, List.getElem_map, ei, ej, he]) (hp j i (by simpa using hj) (by simpa using hi) hlt)
    · rw [if_neg he]
  rw [List.map_congr_left e]
  simp
set_option maxRecDepth 1000000 in
set_option maxHeartbeats 1000000 in
theorem hcrash_any (base hb : Nat) (h : Hse) (nm : ByteArray) (hk : nm.size ≤ maxLen) (k : Int) (hkb : -9223372036854775808 ≤ k ∧ k ≤ 9223372036854775807) (hps : ∀ p ∈ h.ps, PeerOk2 p) (w : World) (hH : HsM w base hb h) (hbase : base ≤ w.heap.size) (tS : SgAt w) (hsb : 0 < base) :
    Calls Tryz.prog 34 #[.pointer (some ⟨hb, 0, none⟩), .string nm, .int .i64 k] w (R1 (.int .i64 (crashN h nm k)) (SetP base hb h w)) := by
  obtain ⟨mb, A, c, L, es, clock, kvs, ls, hh⟩ := hH
  have hH := Lib.hid (show HsM w base hb h from ⟨mb, A, c, L, es, clock, kvs, ls, hh⟩)
  have o4 : w.cell? ⟨hb, 4, none⟩ = some (.map (some mb)) := hh.obj.cell 4
  rcases peer_look hh.peers nm hk with ⟨h1, hr⟩ | ⟨p, _, hpm, h3, h4, hr⟩
  · have e1 : crashN h nm k = 7 := by unfold crashN; rw [h1]
    rw [e1]
    clear hh h1 e1
    go_enter Tryz.func34, Tryz.ntmps34
    go_wp2_with fail
    go_ret
    exact R1.mk rfl ⟨hH.out, OutH.refl _ _⟩
  · have e1 : crashN h nm k = if k = 0 then 0 else 1 := by unfold crashN; rw [h3]
    rw [e1]
    have hok := hps p hpm
    have hnm : p.nm = nm := by unfold findP at h3; simpa using List.find?_some h3
    have hdisk := hok.ok.disk
    have hn : (h.ps.map fun p : Peer => Value.string p.nm).Nodup := by rw [← hh.peers.prs.names]; exact hh.peers.nodup
    obtain ⟨l, hl⟩ : ∃ l, locOf ls h.ps nm = l := ⟨_, rfl⟩
    have hl2 : locOf ls h.ps p.nm = l := by rw [hnm, hl]
    rw [hl] at h4 hr
    have c0 : w.cell? ⟨l.1, 0, none⟩ = some (.pointer (some ⟨l.2, 0, none⟩)) := h4.blk.cell 0
    by_cases hk0 : k = 0
    · subst hk0
      rw [if_pos rfl]
      have hdk : p.dk = flatF (recsOf p.qs) := run_diskH p.qs fun q hq => (hok.2 q hq).1
      have htk : p.dk.take (p.dk.length + 0) = p.dk := by rw [Nat.add_zero, List.take_length]
      have hcut : cutN p.dk = (recsOf p.qs, p.dk.length) := by rw [hdk]; exact cut_flat (recs_shortH hok.2)
      have hC := crash_yes base l.2 p.dk p.dk.length p.st (Nat.le_refl _) (by rw [hdk]; exact recs_bytesH p.qs) (by omega) 0 (by omega) p.dk.length p.qs (by rw [htk]; exact hcut) (Nat.le_refl _) (by rw [List.take_length]; exact hcut) hok.2 (by have := hok.1; omega) w h4.st hbase tS hsb
      rw [List.take_length] at hC
      have hC := Lib.hid hC
      have Hrest := Lib.hid (fun (w' : World) (hM : StM w' base l.2 p.dk p.dk.length p.st) (hO : OutS base l.2 w w') => show SetP base hb h w w' from by
        have hm := hh.peers.step (p2 := p) ⟨p, hpm, rfl⟩ (by rw [hl2]; exact ⟨hO.blk h4.blk (by unfold StKind; decide), hM, h4.opb⟩) (by rw [hl2]; exact hO)
        rw [setP_same hn (by rw [← hnm] at h3; exact h3)] at hm
        exact ⟨⟨mb, A, c, L, es, clock, kvs, ls, hO.blk hh.obj (by unfold StKind; decide), hh.nodes, hO.own hh.row (by unfold StKind; decide), fun e he => ⟨hO.own (hh.tks e he).1 (by unfold StKind; decide), (hh.tks e he).2⟩, hm, hh.oh⟩, OutH.ofS hO⟩)
      clear hh hps hok hdisk hn hdk htk hcut h3 h4 hl hl2 hnm hpm e1 tS
      go_enter Tryz.func34, Tryz.ntmps34
      go_wp2_with fail
      refine hC.out.mono ?_
      rintro e w1 ⟨rfl, hM, hO⟩
      have hR := Lib.hid (Hrest.out w1 hM hO)
      clear hM hO
      go_wp2_with fail
      go_ret
      exact R1.mk rfl hR.out
    · rw [if_neg hk0]
      have hC := Lib.hid (crash_no base l.2 p.dk p.dk.length p.st (Nat.le_refl _) (by omega) k hkb (by omega) w h4.st)
      have hbase := Lib.hid hbase
      clear hh hps hok hdisk hn h3 h4 hl hl2 hnm hpm e1 tS hk0 hkb
      go_enter Tryz.func34, Tryz.ntmps34
      go_wp2_with fail
      refine hC.out.mono ?_
      rintro e w1 ⟨rfl, hb1⟩
      have hR := Lib.hid (show SetP base hb h w w1 from ⟨hH.out.next hb1, OutH.of hb1 hbase.out⟩)
      clear hb1
      go_wp2_with fail
      go_ret
      exact R1.mk rfl hR.out
end Go.Proofs.YtihjgbhnlejhfaaGreatDoor
namespace Go.Proofs.YtihjgbhnlejhfaaGreatDoor
open Go.RowKit Go.ChangeMaps
theorem isIn_nil (nm : ByteArray) : isIn [] nm = false := rfl
theorem isIn_app (a b : List ByteArray) (nm : ByteArray) : isIn (a ++ b) nm = (isIn a nm || isIn b nm) := by unfold isIn; rw [List.any_append]
theorem isIn_one (a nm : ByteArray) : isIn [a] nm = decide (a = nm) := by unfold isIn; simp
theorem addAt_nil (ps : List Peer) (q : Pt) : addAt ps [] q = ps := by
  unfold addAt
  simp [isIn_nil]
theorem addAt_nm (ps : List Peer) (ns : List ByteArray) (q : Pt) : (addAt ps ns q).map (fun p : Peer => p.nm) = ps.map fun p : Peer => p.nm := by
  unfold addAt
  rw [List.map_map]
  refine List.map_congr_left fun p _ => ?_
  show (if isIn ns p.nm = true then { p with qs := p.qs ++ [q] } else p).nm = p.nm
  split <;> rfl
theorem locOf_congr : ∀ (ls : List (Nat × Nat)) {ps ps' : List Peer} (nm : ByteArray), ps.map (fun p : Peer => p.nm) = ps'.map (fun p : Peer => p.nm) → locOf ls ps nm = locOf ls ps' nm
  | [], _, _, _, _ => by unfold locOf; rfl
  | l :: ls, [], [], _, _ => rfl
  | l :: ls, [], p :: ps, _, h => by simp at h
  | l :: ls, p :: ps, [], _, h => by simp at h
  | l :: ls, p :: ps, p' :: ps', nm, h => by
    rw [List.map_cons, List.map_cons] at h
    injection h with h1 h2
    show (if p.nm = nm then l else locOf ls ps nm) = if p'.nm = nm then l else locOf ls ps' nm
    rw [h1, locOf_congr ls nm h2]
theorem find_addAt (ps : List Peer) (ns : List ByteArray) (q : Pt) (nm : ByteArray) : findP (addAt ps ns q) nm = (findP ps nm).map fun p : Peer => if isIn ns p.nm then { p with qs := p.qs ++ [q] } else p := by
  unfold findP addAt
  induction ps with
  | nil => rfl
  | cons p ps ih =>
    rw [List.map_cons, List.find?_cons, List.find?_cons]
    have e : (if isIn ns p.nm then { p with qs := p.qs ++ [q] } else p).nm = p.nm := by split <;> rfl
    rw [e]
    by_cases h : p.nm = nm
    · simp [h]
    · simp only [h, decide_false]
      exact ih
theorem addAt_snoc {ps : List Peer} (hn : (ps.map fun p : Peer => p.nm).Nodup) {ns : List ByteArray} {nm : ByteArray} (hno : nm ∉ ns) {q : Pt} {p : Peer} (hf : findP ps nm = some p) : addAt ps (ns ++ [nm]) q = setP (addAt ps ns q) (p.put q) := by
  have hpm : p.nm = nm := by unfold findP at hf; simpa using List.find?_some hf
  have hno2 : isIn ns nm = false := by
    cases h : isIn ns nm with
    | false => rfl
    | true => exact absurd (isIn_iff.1 h) hno
  unfold findP at hf
  have hmem := List.mem_of_find?_eq_some hf
  unfold addAt setP
  rw [List.map_map]
  refine List.map_congr_left fun r hr => ?_
  have hrn : (if isIn ns r.nm = true then { r with qs := r.qs ++ [q] } else r).nm = r.nm := by split <;> rfl
  show (if isIn (ns ++ [nm]) r.nm = true then { r with qs := r.qs ++ [q] } else r) = if (if isIn ns r.nm = true then { r with qs := r.qs ++ [q] } else r).nm = (p.put q).nm then p.put q else (if isIn ns r.nm = true then { r with qs := r.qs ++ [q] } else r)
  rw [hrn, isIn_app, isIn_one]
  have hpn : (p.put q).nm = nm := hpm
  rw [hpn]
  by_cases he : r.nm = nm
  · have hrp : r = p := by
      obtain ⟨i, hi, ei⟩ := List.getElem_of_mem hr
      obtain ⟨j, hj, ej⟩ := List.getElem_of_mem hmem
      have hp := List.pairwise_iff_getElem.1 hn
      rcases Nat.lt_trichotomy i j with hlt | hlt | hlt
      · exact absurd (by rw [List.getElem_map, List.getElem_map, ei, ej, he, hpm]) (hp i j (by simpa using hi) (by simpa using hj) hlt)
      · subst hlt; rw [← ei, ← ej]
      · exact absurd (by rw [List.getElem_map, List.getElem_map, ei, ej, he, hpm]) (hp j i (by simpa using hj) (by simpa using hi) hlt)
    subst hrp
    rw [if_pos he, show isIn ns r.nm = false by rw [he]; exact hno2, show decide (nm = r.nm) = true from decide_eq_true he.symm]
    rfl
  · rw [if_neg he, decide_eq_false (fun e => he e.symm), Bool.or_false]
theorem OutH.below {base : Nat} {w w' : World} (h : OutH base w w') : Below base w w' := ⟨h.os, h.tape, h.output, h.size, fun k hk => h.low k hk⟩
theorem OutH.blk {base : Nat} {w w' : World} {g : Nat} {t : TypeId} {cs : Array Value} (h : OutH base w w') (hk : Blk w g t cs) (ht : ¬ HsKind t) : Blk w' g t cs := (h.kinds g cs t _ hk ht).trans hk
theorem OutH.own {base b2 size n : Nat} {w w' : World} {e : TypeId} {v : Value} {xs : List Value} (h : OutH base w w') (ho : w.ownsRow b2 e size v n xs) (ht : ¬ HsKind e) : w'.ownsRow b2 e size v n xs :=
  own_keepS ho fun q hq => by
    obtain ⟨cs, hc⟩ := own_kindS ho q hq
    exact h.kinds q cs e _ hc ht
theorem OutH.signs {base : Nat} {w w' : World} (h : OutH base w w') (tS : SgAt w) (hsb : 0 < base) : SgAt w' :=
  ⟨Nat.lt_of_lt_of_le tS.1 h.size, fun k hk => by rw [← tS.2 k hk]; exact h.below.cell (p := ⟨0, k, none⟩) hsb⟩
/-- a house that works: a ring of nodes, each with a peer; few puts at each -/
structure HseOk (m : Nat) (h : Hse) : Prop where
  ring : RgOk h.nodes
  cop : h.copies ≤ 20
  peers : ∀ p ∈ h.ps, p.qs.length ≤ m ∧ ∀ q ∈ p.qs, okP q ∧ SmpIn q.2
  each : ∀ x ∈ h.nodes, ∃ p ∈ h.ps, p.nm = x.nm
theorem ownK_in {m : Nat} {h : Hse} (k : HseOk m h) (key : ByteArray) : ∀ nm ∈ ownK h.nodes h.copies key, nm.size ≤ maxLen ∧ findP h.ps nm ≠ none := by
  intro nm hm
  obtain ⟨x, hx, e, _⟩ := ownU_mem (List.mem_of_mem_take hm)
  have h1 := (k.ring.2.1 x hx).2.1
  rw [e] at h1
  refine ⟨by unfold maxLen; omega, fun hn => ?_⟩
  obtain ⟨p, hp, e2⟩ := k.each x hx
  exact find_none_all hn p hp (by rw [e2, e])
theorem ownK_nodup (nodes : List Nod) (copies : Nat) (key : ByteArray) : (ownK nodes copies key).Nodup := (uq_nodup _).sublist (List.take_sublist _ _)
theorem liveK_nodup (nodes : List Nod) (copies : Nat) (ps : List Peer) (key : ByteArray) : (liveK nodes copies ps key).Nodup := (ownK_nodup nodes copies key).sublist List.filter_sublist
theorem liveK_find {m : Nat} {h : Hse} (k : HseOk m h) (key : ByteArray) : ∀ nm ∈ liveK h.nodes h.copies h.ps key, ∃ p, findP h.ps nm = some p ∧ p ∈ h.ps := by
  intro nm hm
  have h1 := (ownK_in k key nm (List.mem_filter.1 hm).1).2
  cases hf : findP h.ps nm with
  | none => exact absurd hf h1
  | some p => exact ⟨p, rfl, by unfold findP at hf; exact List.mem_of_find?_eq_some hf⟩
theorem putH_ok {m : Nat} {h : Hse} (k : HseOk m h) {L : List Lab} {x : Smp} (hx : SmpIn x) : HseOk (m + 1) (putH h L x).1 := by
  unfold putH
  by_cases he : (encN L x).2 ≠ 0
  · rw [if_pos he]
    exact ⟨k.ring, k.cop, fun p hp => ⟨Nat.le_succ_of_le (k.peers p hp).1, (k.peers p hp).2⟩, k.each⟩
  · rw [if_neg he]
    refine ⟨k.ring, k.cop, fun p hp => ?_, fun y hy => ?_⟩
    · simp only [addAt] at hp
      obtain ⟨r, hr, rfl⟩ := List.mem_map.1 hp
      obtain ⟨h1, h2⟩ := k.peers r hr
      split
      · refine ⟨by simp; omega, fun q hq => ?_⟩
        rcases List.mem_append.1 hq with e | e
        · exact h2 q e
        · rw [List.mem_singleton] at e
          subst e
          exact ⟨by unfold okP; simpa using he, hx⟩
      · exact ⟨Nat.le_succ_of_le h1, h2⟩
    · obtain ⟨p, hp, e⟩ := k.each y hy
      refine ⟨_, List.mem_map.2 ⟨p, hp, rfl⟩, ?_⟩
      split <;> exact e
end Go.Proofs.YtihjgbhnlejhfaaGreatDoor
namespace Go.Proofs.YtihjgbhnlejhfaaGreatDoor
open Go.Sort

/-- a list of points, none more often than in another list -/
def Subp (l m : List Pt) : Prop := ∃ s : List Pt, s.Sublist m ∧ l.Perm s
theorem Subp.len {l m : List Pt} (h : Subp l m) : l.length ≤ m.length := by
  obtain ⟨s, h1, h2⟩ := h
  rw [h2.length_eq]
  exact h1.length_le
theorem Subp.mem {l m : List Pt} (h : Subp l m) {q : Pt} (hq : q ∈ l) : q ∈ m := by
  obtain ⟨s, h1, h2⟩ := h
  exact h1.subset (h2.mem_iff.1 hq)
theorem Subp.more {l m : List Pt} (h : Subp l m) (q : Pt) : Subp l (m ++ [q]) := by
  obtain ⟨s, h1, h2⟩ := h
  exact ⟨s, h1.trans (List.sublist_append_left _ _), h2⟩
theorem Subp.snoc {l m : List Pt} (h : Subp l m) (q : Pt) : Subp (l ++ [q]) (m ++ [q]) := by
  obtain ⟨s, h1, h2⟩ := h
  exact ⟨s ++ [q], h1.append (List.Sublist.refl _), h2.append_right _⟩
theorem Subp.nil (m : List Pt) : Subp [] m := ⟨[], List.nil_sublist _, List.Perm.refl _⟩
theorem sub_add {l m : List Pt} (h : l.Sublist m) {q : Pt} (hq : q ∈ m) (hn : q ∉ l) : ∃ s : List Pt, s.Sublist m ∧ (q :: l).Perm s := by
  induction h with
  | slnil => cases hq
  | @cons l m a h ih =>
    rcases List.mem_cons.1 hq with e | e
    · exact ⟨a :: l, h.cons_cons a, by rw [e]⟩
    · obtain ⟨s, h1, h2⟩ := ih e hn
      exact ⟨s, h1.cons a, h2⟩
  | @cons_cons l m a h ih =>
    rcases List.mem_cons.1 hq with e | e
    · exact absurd (by rw [e]; exact List.mem_cons_self) hn
    · obtain ⟨s, h1, h2⟩ := ih e fun h => hn (List.mem_cons_of_mem _ h)
      exact ⟨a :: s, h1.cons_cons a, (List.Perm.swap a q l).trans (h2.cons a)⟩
theorem Subp.add {l m : List Pt} (h : Subp l m) {q : Pt} (hq : q ∈ m) (hn : q ∉ l) : Subp (l ++ [q]) m := by
  obtain ⟨s, h1, h2⟩ := h
  obtain ⟨s2, h3, h4⟩ := sub_add h1 hq fun e => hn (h2.mem_iff.2 e)
  exact ⟨s2, h3, (List.perm_append_comm.trans (h2.cons q)).trans h4⟩
theorem look_of_mem {l : List Smp} (h : Up l) {x : Smp} (hx : x ∈ l) : look l x.t = some x.v := by
  induction l with
  | nil => cases hx
  | cons y l ih =>
    unfold look
    rcases List.mem_cons.1 hx with e | e
    · rw [e, if_pos rfl]
    · rw [if_neg (by have := up_mem h x e; omega)]
      exact ih (up_tail h) e
theorem mem_of_look {l : List Smp} {t v : Int} (h : look l t = some v) : (⟨t, v⟩ : Smp) ∈ l := by
  induction l with
  | nil => cases h
  | cons y l ih =>
    unfold look at h
    by_cases e : y.t = t
    · rw [if_pos e] at h
      injection h with h
      rw [← e, ← h]
      exact List.mem_cons_self
    · rw [if_neg e] at h
      exact List.mem_cons_of_mem _ (ih h)
theorem hasK_look (p : Peer) (key : ByteArray) (t : Int) : look (hasK p key) t = lookSt p.st key t := by
  unfold hasK lookSt
  cases findSt p.st key <;> rfl
/-- what a peer has of a key is in order, and few -/
theorem hasK_up {p : Peer} (h : PeerOk p) (key : ByteArray) : Up (hasK p key) ∧ (hasK p key).length ≤ p.qs.length := by
  unfold hasK
  cases hf : findSt p.st key with
  | none => exact ⟨List.Pairwise.nil, by simp⟩
  | some y =>
    obtain ⟨_, _, h3, _, h5⟩ := h.inv.ent _ (find_mem hf)
    exact ⟨h3, h5⟩
theorem peer_top {p : Peer} (h : ∀ q ∈ p.qs, SmpIn q.2) (key : ByteArray) (t : Int) : topP key t p.qs (lookSt p.st key t) := top_run p.qs h key t
/-- the labels that a key tells -/
def labOf (key : ByteArray) : List Lab := (readL key).1
theorem labOf_tx {L : List Lab} (h : chkL L = 0) : labOf (txL L) = L := congrArg Prod.fst (readL_told h)
theorem okP_chk {q : Pt} (h : okP q) : chkL q.1 = 0 := (enc_ok (L := q.1) (x := q.2) h).1
/-- a house whose peers hold no point more often than it was put -/
structure HseI (puts : List Pt) (h : Hse) : Prop where
  ring : RgOk h.nodes
  cop : h.copies ≤ 20
  sub : ∀ p ∈ h.ps, Subp p.qs puts
  ok : ∀ q ∈ puts, okP q ∧ SmpIn q.2
  each : ∀ x ∈ h.nodes, ∃ p ∈ h.ps, p.nm = x.nm
  only : ∀ p ∈ h.ps, ∃ x ∈ h.nodes, x.nm = p.nm
  names : (h.ps.map fun p : Peer => p.nm).Nodup
theorem HseI.hse {puts : List Pt} {h : Hse} (k : HseI puts h) : HseOk puts.length h :=
  ⟨k.ring, k.cop, fun p hp => ⟨(k.sub p hp).len, fun q hq => k.ok q ((k.sub p hp).mem hq)⟩, k.each⟩
theorem HseI.peer {puts : List Pt} {h : Hse} (k : HseI puts h) (hm : puts.length ≤ 22) {p : Peer} (hp : p ∈ h.ps) : PeerOk2 p :=
  ⟨Nat.le_trans (k.sub p hp).len hm, fun q hq => k.ok q ((k.sub p hp).mem hq)⟩
/-- peers that hold no point more often than it was put -/
def SubsP (puts : List Pt) (ps : List Peer) : Prop := ∀ p ∈ ps, Subp p.qs puts
theorem putH_sub {puts : List Pt} {h : Hse} (k : HseI puts h) (L : List Lab) (x : Smp) (hx : SmpIn x) : HseI (if (encN L x).2 ≠ 0 then puts else puts ++ [(L, x)]) (putH h L x).1 := by
  unfold putH
  by_cases he : (encN L x).2 ≠ 0
  · rw [if_pos he, if_pos he]
    exact k
  · rw [if_neg he, if_neg he]
    refine ⟨k.ring, k.cop, fun p hp => ?_, fun q hq => ?_, fun y hy => ?_, fun p hp => ?_, by rw [addAt_nm]; exact k.names⟩
    · simp only [addAt] at hp
      obtain ⟨r, hr, rfl⟩ := List.mem_map.1 hp
      split
      · exact (k.sub r hr).snoc _
      · exact (k.sub r hr).more _
    · rcases List.mem_append.1 hq with e | e
      · exact k.ok q e
      · rw [List.mem_singleton] at e
        rw [e]
        exact ⟨by unfold okP; simpa using he, hx⟩
    · obtain ⟨p, hp, e⟩ := k.each y hy
      refine ⟨_, List.mem_map.2 ⟨p, hp, rfl⟩, ?_⟩
      split <;> exact e
    · obtain ⟨r, hr, e⟩ := List.mem_map.1 hp
      obtain ⟨y, hy, e2⟩ := k.only r hr
      refine ⟨y, hy, ?_⟩
      rw [e2, ← e]
      split <;> rfl
def lackB (had : List Smp) (x : Smp) : Bool := match look had x.t with | none => true | some v => decide (v < x.v)
theorem lacks_eq (had all : List Smp) : lacks had all = all.filter (lackB had) := rfl
theorem lackB_none {had : List Smp} {x : Smp} (h : look had x.t = none) : lackB had x = true := by unfold lackB; rw [h]
theorem lackB_some {had : List Smp} {x : Smp} {v : Int} (h : look had x.t = some v) : lackB had x = decide (v < x.v) := by unfold lackB; rw [h]
/-- a peer that was given samples of labels that were put -/
theorem give_sub {puts : List Pt} {p : Peer} (hp : Subp p.qs puts) (ho : ∀ q ∈ puts, okP q ∧ SmpIn q.2) {L : List Lab} : ∀ (all : List Smp), Up all → (∀ x ∈ all, (L, x) ∈ puts) → ∀ (qs : List Pt), Subp qs puts → (∀ q ∈ qs, q ∉ p.qs → ∃ y : Smp, q = (L, y) ∧ ∀ x ∈ all, y.t < x.t) → (∀ q ∈ p.qs, q ∈ qs) → Subp (qs ++ (lacks (hasK p (txL L)) all).map fun x => (L, x)) puts := by
  intro all
  induction all with
  | nil => intro _ _ qs hq _ _; unfold lacks; simpa using hq
  | cons x all ih =>
    intro hu hm qs hq hn hsub
    rw [lacks_eq] at ih ⊢
    have hx := hm x List.mem_cons_self
    by_cases hl : lackB (hasK p (txL L)) x = true
    · rw [List.filter_cons, if_pos hl, List.map_cons, show qs ++ (L, x) :: (all.filter (lackB (hasK p (txL L)))).map (fun x => (L, x)) = (qs ++ [(L, x)]) ++ (all.filter (lackB (hasK p (txL L)))).map (fun x => (L, x)) by rw [List.append_assoc]; rfl]
      have hno : (L, x) ∉ p.qs := fun hin => by
        rcases peer_top (fun q hq => (ho q (hp.mem hq)).2) (txL L) x.t with ⟨e, h1⟩ | ⟨v, e, _, h1⟩
        · exact h1 _ hin ⟨(ho _ hx).1, rfl, rfl⟩
        · rw [← hasK_look] at e
          rw [lackB_some e] at hl
          have := h1 _ hin ⟨(ho _ hx).1, rfl, rfl⟩
          have h2 := of_decide_eq_true hl
          simp only [] at this h2
          omega
      refine ih (up_tail hu) (fun y hy => hm y (List.mem_cons_of_mem _ hy)) _ (hq.add hx fun hin => ?_) (fun q hq2 hq3 => ?_) (fun q hq2 => List.mem_append_left _ (hsub q hq2))
      · obtain ⟨y, e, h2⟩ := hn _ hin hno
        have := h2 x List.mem_cons_self
        injection e with _ e
        rw [e] at this
        omega
      · rcases List.mem_append.1 hq2 with e | e
        · obtain ⟨y, e1, h2⟩ := hn q e hq3
          exact ⟨y, e1, fun z hz => h2 z (List.mem_cons_of_mem _ hz)⟩
        · rw [List.mem_singleton] at e
          exact ⟨x, e, fun z hz => up_mem hu z hz⟩
    · rw [List.filter_cons, if_neg hl]
      exact ih (up_tail hu) (fun y hy => hm y (List.mem_cons_of_mem _ hy)) qs hq (fun q hq2 hq3 => by
        obtain ⟨y, e1, h2⟩ := hn q hq2 hq3
        exact ⟨y, e1, fun z hz => h2 z (List.mem_cons_of_mem _ hz)⟩) hsub
theorem giveTo_nm (ps : List Peer) (ns : List ByteArray) (L : List Lab) (all : List Smp) : (giveTo ps ns L all).map (fun p : Peer => p.nm) = ps.map fun p : Peer => p.nm := by
  unfold giveTo
  rw [List.map_map]
  refine List.map_congr_left fun p _ => ?_
  show (if isIn ns p.nm = true then { p with qs := p.qs ++ (lacks (hasK p (txL L)) all).map fun x => (L, x) } else p).nm = p.nm
  split <;> rfl
theorem giveTo_sub {puts : List Pt} {ps : List Peer} (h : SubsP puts ps) (ho : ∀ q ∈ puts, okP q ∧ SmpIn q.2) {ns : List ByteArray} {L : List Lab} {all : List Smp} (hu : Up all) (hm : ∀ x ∈ all, (L, x) ∈ puts) : SubsP puts (giveTo ps ns L all) := by
  intro p hp
  obtain ⟨r, hr, rfl⟩ := List.mem_map.1 hp
  split
  · exact give_sub (h r hr) ho all hu hm r.qs (h r hr) (fun q hq hn => absurd hq hn) fun q hq => hq
  · exact h r hr
end Go.Proofs.YtihjgbhnlejhfaaGreatDoor
namespace Go.Proofs.YtihjgbhnlejhfaaGreatDoor
open Go.Sort

theorem join_some {a b : Option Int} {v : Int} (h : join a b = some v) : a = some v ∨ b = some v := by
  cases a with
  | none => exact .inr h
  | some x =>
    cases b with
    | none => exact .inl h
    | some y =>
      have h : max x y = v := by injection h
      rcases Int.le_total x y with e | e
      · rw [Int.max_eq_right e] at h; exact .inr (by rw [h])
      · rw [Int.max_eq_left e] at h; exact .inl (by rw [h])
theorem join_ge {a b : Option Int} {v : Int} (h : a = some v ∨ b = some v) : ∃ u, join a b = some u ∧ v ≤ u := by
  rcases h with rfl | rfl
  · cases b with
    | none => exact ⟨v, rfl, Int.le_refl _⟩
    | some y => exact ⟨_, rfl, Int.le_max_left _ _⟩
  · cases a with
    | none => exact ⟨v, rfl, Int.le_refl _⟩
    | some y => exact ⟨_, rfl, Int.le_max_right _ _⟩
/-- rows that are merged one behind the other -/
def mergeAll (f : ByteArray → List Smp) (l : List ByteArray) (out : List Smp) : List Smp := l.foldl (fun out nm => mergeUp out (f nm)) out
theorem mergeAll_up {f : ByteArray → List Smp} : ∀ (l : List ByteArray) (out : List Smp), (∀ nm ∈ l, Up (f nm)) → Up out → Up (mergeAll f l out)
  | [], _, _, h => h
  | nm :: l, out, hf, h => mergeAll_up l (mergeUp out (f nm)) (fun m hm => hf m (List.mem_cons_of_mem _ hm)) (merge_up _ _ h (hf nm List.mem_cons_self))
theorem mergeAll_some {f : ByteArray → List Smp} {t v : Int} : ∀ (l : List ByteArray) (out : List Smp), (∀ nm ∈ l, Up (f nm)) → Up out → look (mergeAll f l out) t = some v → look out t = some v ∨ ∃ nm ∈ l, look (f nm) t = some v
  | [], out, _, _, h => .inl h
  | nm :: l, out, hf, hu, h => by
    have h1 := hf nm List.mem_cons_self
    rcases mergeAll_some l (mergeUp out (f nm)) (fun m hm => hf m (List.mem_cons_of_mem _ hm)) (merge_up _ _ hu h1) h with e | ⟨m, hm, e⟩
    · rw [look_merge _ _ hu h1] at e
      rcases join_some e with e | e
      · exact .inl e
      · exact .inr ⟨nm, List.mem_cons_self, e⟩
    · exact .inr ⟨m, List.mem_cons_of_mem _ hm, e⟩
theorem mergeAll_ge {f : ByteArray → List Smp} {t v : Int} : ∀ (l : List ByteArray) (out : List Smp), (∀ nm ∈ l, Up (f nm)) → Up out → (look out t = some v ∨ ∃ nm ∈ l, look (f nm) t = some v) → ∃ u, look (mergeAll f l out) t = some u ∧ v ≤ u
  | [], out, _, _, h => by
    rcases h with e | ⟨m, hm, _⟩
    · exact ⟨v, e, Int.le_refl _⟩
    · cases hm
  | nm :: l, out, hf, hu, h => by
    have h1 := hf nm List.mem_cons_self
    have h2 := merge_up out (f nm) hu h1
    have hr : ∀ m ∈ l, Up (f m) := fun m hm => hf m (List.mem_cons_of_mem _ hm)
    have key : (∃ u, look (mergeUp out (f nm)) t = some u ∧ v ≤ u) ∨ ∃ m ∈ l, look (f m) t = some v := by
      rcases h with e | ⟨m, hm, e⟩
      · rw [look_merge _ _ hu h1]
        exact .inl (join_ge (.inl e))
      · rcases List.mem_cons.1 hm with e2 | e2
        · rw [e2] at e
          rw [look_merge _ _ hu h1]
          exact .inl (join_ge (.inr e))
        · exact .inr ⟨m, e2, e⟩
    rcases key with ⟨u, e, hle⟩ | e
    · obtain ⟨u2, h3, h4⟩ := mergeAll_ge (f := f) (t := t) (v := u) l (mergeUp out (f nm)) hr h2 (.inl e)
      exact ⟨u2, h3, Int.le_trans hle h4⟩
    · exact mergeAll_ge l (mergeUp out (f nm)) hr h2 (.inr e)
theorem getK_eq (h : Hse) (key : ByteArray) : getK h key = if (liveK h.nodes h.copies h.ps key).length < h.read then none else some (mergeAll (hasN h.ps key) (liveK h.nodes h.copies h.ps key) []) := rfl
theorem findP_mem {ps : List Peer} {nm : ByteArray} {p : Peer} (h : findP ps nm = some p) : p ∈ ps ∧ p.nm = nm := by
  unfold findP at h
  exact ⟨List.mem_of_find?_eq_some h, by simpa using List.find?_some h⟩
theorem hasN_up {puts : List Pt} {h : Hse} (k : HseI puts h) (hm : puts.length ≤ 22) (key nm : ByteArray) : Up (hasN h.ps key nm) := by
  unfold hasN
  cases hf : findP h.ps nm with
  | none => exact List.Pairwise.nil
  | some p => exact (hasK_up (k.peer hm (findP_mem hf).1).ok key).1
/-- what a peer has was put -/
theorem hasN_put {puts : List Pt} {h : Hse} (k : HseI puts h) {key nm : ByteArray} {t v : Int} (e : look (hasN h.ps key nm) t = some v) : chkL (labOf key) = 0 ∧ txL (labOf key) = key ∧ (labOf key, (⟨t, v⟩ : Smp)) ∈ puts := by
  unfold hasN at e
  cases hf : findP h.ps nm with
  | none => rw [hf] at e; cases e
  | some p =>
    rw [hf] at e
    simp only [] at e
    have hp := (findP_mem hf).1
    rw [hasK_look] at e
    rcases peer_top (fun q hq => (k.ok q ((k.sub p hp).mem hq)).2) key t with ⟨e2, _⟩ | ⟨u, e2, ⟨q, hq, ⟨h1, h2, h3⟩, h4⟩, _⟩
    · rw [e2] at e; cases e
    · rw [e2] at e
      injection e with e
      obtain ⟨L, y⟩ := q
      have hL : labOf key = L := by rw [← h2]; exact labOf_tx (okP_chk h1)
      rw [hL]
      refine ⟨okP_chk h1, h2, ?_⟩
      have hy : y = ⟨t, v⟩ := by cases y; simp only [] at h3 h4; rw [h3, h4, e]
      rw [← hy]
      exact (k.sub p hp).mem hq
/-- a row in order, all of it put -/
structure PutRow (puts : List Pt) (L : List Lab) (l : List Smp) : Prop where
  up : Up l
  mem : ∀ x ∈ l, (L, x) ∈ puts
theorem PutRow.few {puts : List Pt} {L : List Lab} {l : List Smp} (h : PutRow puts L l) (ho : ∀ q ∈ puts, okP q ∧ SmpIn q.2) : l.length ≤ puts.length := by
  have h1 := (give_sub (p := ⟨⟨#[]⟩, [], true⟩) (Subp.nil puts) ho l h.up h.mem [] (Subp.nil puts) (fun q hq => by cases hq) fun q hq => hq).len
  have e : lacks (hasK ⟨⟨#[]⟩, [], true⟩ (txL L)) l = l := by
    unfold lacks
    refine List.filter_eq_self.2 fun x _ => rfl
  rw [e] at h1
  simpa using h1
theorem mergeAll_row {puts : List Pt} {h : Hse} (k : HseI puts h) (hm : puts.length ≤ 22) (key : ByteArray) (l : List ByteArray) : PutRow puts (labOf key) (mergeAll (hasN h.ps key) l []) ∧ (mergeAll (hasN h.ps key) l [] ≠ [] → txL (labOf key) = key ∧ chkL (labOf key) = 0) := by
  have hu : Up (mergeAll (hasN h.ps key) l []) := mergeAll_up l [] (fun nm _ => hasN_up k hm key nm) List.Pairwise.nil
  have hall : ∀ x ∈ mergeAll (hasN h.ps key) l [], chkL (labOf key) = 0 ∧ txL (labOf key) = key ∧ (labOf key, x) ∈ puts := fun x hx => by
    rcases mergeAll_some l [] (fun nm _ => hasN_up k hm key nm) List.Pairwise.nil (look_of_mem hu hx) with e | ⟨nm, _, e⟩
    · cases e
    · exact hasN_put k e
  refine ⟨⟨hu, fun x hx => (hall x hx).2.2⟩, fun hne => ?_⟩
  cases hl : mergeAll (hasN h.ps key) l [] with
  | nil => exact absurd hl hne
  | cons x r =>
    have := hall x (by rw [hl]; exact List.mem_cons_self)
    exact ⟨this.2.1, this.1⟩
theorem getK_row {puts : List Pt} {h : Hse} (k : HseI puts h) (hm : puts.length ≤ 22) {key : ByteArray} {all : List Smp} (hg : getK h key = some all) : PutRow puts (labOf key) all ∧ (all ≠ [] → txL (labOf key) = key ∧ chkL (labOf key) = 0) := by
  rw [getK_eq] at hg
  split at hg
  · cases hg
  · injection hg with hg
    rw [← hg]
    exact mergeAll_row k hm key _
theorem setUp_sub {puts : List Pt} {h : Hse} (k : HseI puts h) (nm : ByteArray) (up : Bool) : HseI puts (h.mark nm up) := by
  have hm : ∀ p ∈ (h.mark nm up).ps, ∃ r ∈ h.ps, r.nm = p.nm ∧ r.qs = p.qs := fun p hp => by
    obtain ⟨r, hr, rfl⟩ := List.mem_map.1 hp
    refine ⟨r, hr, ?_, ?_⟩ <;> split <;> rfl
  refine ⟨k.ring, k.cop, fun p hp => ?_, k.ok, fun y hy => ?_, fun p hp => ?_, ?_⟩
  · obtain ⟨r, hr, _, e⟩ := hm p hp
    rw [← e]; exact k.sub r hr
  · obtain ⟨p, hp, e⟩ := k.each y hy
    refine ⟨_, List.mem_map.2 ⟨p, hp, rfl⟩, ?_⟩
    split <;> exact e
  · obtain ⟨r, hr, e, _⟩ := hm p hp
    rw [← e]; exact k.only r hr
  · have e : (h.mark nm up).ps.map (fun p : Peer => p.nm) = h.ps.map fun p : Peer => p.nm := by
      show (setUp h.ps nm up).map _ = _
      unfold setUp
      rw [List.map_map]
      refine List.map_congr_left fun p _ => ?_
      show (if p.nm = nm then { p with up := up } else p).nm = p.nm
      split <;> rfl
    rw [e]; exact k.names
/-- Mend: the house behind it, its error -/
def mendH (h : Hse) (L : List Lab) : Hse × Int :=
  if chkL L ≠ 0 then (h, chkL L) else
  match getK h (txL L) with
  | none => (h, 13)
  | some all => ({ h with ps := giveTo h.ps (liveK h.nodes h.copies h.ps (txL L)) L all }, 0)
theorem give_house {puts : List Pt} {h : Hse} (k : HseI puts h) {ns : List ByteArray} {L : List Lab} {all : List Smp} (hr : PutRow puts L all) : HseI puts { h with ps := giveTo h.ps ns L all } := by
  refine ⟨k.ring, k.cop, giveTo_sub k.sub k.ok hr.up hr.mem, k.ok, fun y hy => ?_, fun p hp => ?_, by rw [giveTo_nm]; exact k.names⟩
  · obtain ⟨p, hp, e⟩ := k.each y hy
    refine ⟨_, List.mem_map.2 ⟨p, hp, rfl⟩, ?_⟩
    split <;> exact e
  · obtain ⟨r, hr, e⟩ := List.mem_map.1 hp
    obtain ⟨y, hy, e2⟩ := k.only r hr
    refine ⟨y, hy, ?_⟩
    rw [e2, ← e]
    split <;> rfl
theorem mendH_sub {puts : List Pt} {h : Hse} (k : HseI puts h) (hm : puts.length ≤ 22) (L : List Lab) : HseI puts (mendH h L).1 := by
  unfold mendH
  by_cases hc : chkL L ≠ 0
  · rw [if_pos hc]; exact k
  · rw [if_neg hc]
    cases hg : getK h (txL L) with
    | none => exact k
    | some all =>
      obtain ⟨h1, _⟩ := getK_row k hm hg
      rw [labOf_tx (Decidable.not_not.1 hc)] at h1
      exact give_house k h1
end Go.Proofs.YtihjgbhnlejhfaaGreatDoor
namespace Go.Proofs.YtihjgbhnlejhfaaGreatDoor
open Go.RowKit Go.ChangeMaps

theorem keysS_in {st : StD} {k : ByteArray} (h : k ∈ st.map (·.1)) : k ∈ keysS st := by
  unfold keysS sortS strL
  refine List.mem_map.2 ⟨k.data.toList, (List.mergeSort_perm _ _).mem_iff.2 (List.mem_map.2 ⟨k, h, rfl⟩), by simp⟩
theorem allN_key {st : StD} {j : Nat} (hj : j < (allN st).length) (hj2 : j < (keysS st).length) : at_ (allN st) j = serAt st ((keysS st)[j]) := by
  have h1 : (allN st)[j]? = some (serAt st ((keysS st)[j])) := by unfold allN; rw [List.getElem?_map, List.getElem?_eq_getElem hj2]; rfl
  rw [List.getElem?_eq_getElem hj] at h1
  injection h1 with h1
  rw [at_eq hj]
  exact h1
theorem allN_at {p : Peer} (h : PeerOk p) {j : Nat} (hj : j < (allN p.st).length) : ∃ k, findSt p.st k = some (at_ (allN p.st) j) ∧ k = txL (at_ (allN p.st) j).1 ∧ chkL (at_ (allN p.st) j).1 = 0 := by
  have hj2 : j < (keysS p.st).length := by unfold allN at hj; rwa [List.length_map] at hj
  have e := allN_key hj hj2
  have hm := keysS_mem (List.getElem_mem hj2)
  obtain ⟨q, hq, e2⟩ := List.mem_map.1 hm
  obtain ⟨k, y⟩ := q
  have hf : findSt p.st k = some y := find_of_mem h.inv.keys hq
  simp only [] at e2
  rw [← e2] at e
  have e3 : serAt p.st k = y := by unfold serAt; rw [hf]; rfl
  rw [e3] at e
  obtain ⟨h1, h2, _⟩ := h.inv.ent _ hq
  rw [e]
  exact ⟨k, hf, h1, h2⟩
theorem allN_found {p : Peer} (h : PeerOk p) {j : Nat} {key : ByteArray} (hj : j < (allN p.st).length) (e : txL (at_ (allN p.st) j).1 = key) : hasK p key = (at_ (allN p.st) j).2 := by
  obtain ⟨k, h1, h2, _⟩ := allN_at h hj
  unfold hasK
  rw [← e, ← h2, h1]
theorem allN_none {p : Peer} {key : ByteArray} (h : PeerOk p) (hn : ∀ j, j < (allN p.st).length → txL (at_ (allN p.st) j).1 ≠ key) : hasK p key = [] := by
  unfold hasK
  cases hf : findSt p.st key with
  | none => rfl
  | some y =>
    exfalso
    have hm := keysS_in (List.mem_map.2 ⟨_, find_mem hf, rfl⟩)
    obtain ⟨j, hj, e⟩ := List.getElem_of_mem hm
    have hj2 : j < (allN p.st).length := by unfold allN; rwa [List.length_map]
    obtain ⟨k, h1, h2, _⟩ := allN_at h hj2
    refine hn j hj2 ?_
    have e2 : at_ (allN p.st) j = y := by
      rw [allN_key hj2 hj, e]
      unfold serAt
      rw [hf]
      rfl
    rw [e2]
    obtain ⟨h3, _⟩ := h.inv.ent _ (find_mem hf)
    exact h3.symm
/-- a row of samples, the call's own -/
def SmpsP (l : List Smp) (w : World) (v : Value) (w' : World) : Prop := ∃ A n c, v = .slice A n c ∧ l.length = n ∧ w'.ownsRow w.heap.size 26 2 (.slice A n c) n (smpCs l) ∧ Below w.heap.size w w'
theorem chkL_ok {L : List Lab} (h : chkL L = 0) : L.length ≤ 10 ∧ ∀ e ∈ L, LabOk e := by
  refine ⟨(chkL_iff.1 h).1, fun e he => ?_⟩
  obtain ⟨q1, q2⟩ := (chkL_iff.1 h).2.1 e he
  have q3 := nameOk_le q1
  exact ⟨by unfold maxLen; omega, by unfold maxLen; omega⟩
set_option maxRecDepth 1000000 in
set_option maxHeartbeats 4000000 in
theorem has_any (base pb g : Nat) (p : Peer) (hp : PeerOk2 p) (key : ByteArray) (w : World) (hP : PeerAt w base pb g p) (tS : SgAt w) :
    Calls Tryz.prog 76 #[.pointer (some ⟨pb, 0, none⟩), .string key] w (RV (SmpsP (hasK p key) w)) := by
  have p0 : w.cell? ⟨pb, 0, none⟩ = some (.pointer (some ⟨g, 0, none⟩)) := hP.blk.cell 0
  have hA := Lib.hid (all_any base g p.dk p.dk.length p.st hp.ok.ok (hp.ok.inv.keyOk) w hP.st)
  have hfe := Lib.hid (fun (j : Nat) (hj : j < (allN p.st).length) (e : txL (at_ (allN p.st) j).1 = key) => allN_found hp.ok hj e)
  have hne := Lib.hid (fun hn => allN_none (key := key) hp.ok hn)
  have hat := Lib.hid (fun (j : Nat) (hj : j < (allN p.st).length) => (allN_at hp.ok hj))
  have hlen : (allN p.st).length ≤ 22 := by
    have h1 := hp.ok.inv.len
    have h2 := hp.1
    rw [allN_len]
    exact Nat.le_trans h1 h2
  obtain ⟨all, hall⟩ : ∃ all, allN p.st = all := ⟨_, rfl⟩
  obtain ⟨had, hhad⟩ : ∃ had, hasK p key = had := ⟨_, rfl⟩
  rw [hall, hhad] at hfe
  rw [hall, hhad] at hne
  rw [hall] at hA hat hlen
  rw [hhad]
  have HS := Lib.hid tS
  clear hP hp hall hhad tS
  go_enter Tryz.func76, Tryz.ntmps76
  go_wp2_with fail
  refine hA.out.mono ?_
  rintro e w1 ⟨v, rfl, A, n, c, es, rfl, hn, ho, hR, hb1⟩
  have Hn := Lib.hid hn
  have hO := Lib.hid (Has.of_own ho)
  have hR := Lib.hid hR
  have Hb1 := Lib.hid hb1
  have hn22 : n ≤ 22 := by rw [← hn]; exact hlen
  clear p0 ho hb1 hlen hA hn
  go_wp2_with fail
  go_loopw [15] (fun i wr => ∃ j : Nat, j ≤ n ∧ i = .int .i64 (j : Nat) ∧ Hid (∀ q, q < j → txL (at_ all q).1 ≠ key) ∧ Hid (Below w1.heap.size w1 wr)) (fun i _ => n + 5 - (intOf i).toNat)
  case atStart => exact ⟨0, by omega, rfl, Lib.hid (fun q hq => by omega), Lib.hid (Below.refl _ _)⟩
  case round =>
    obtain ⟨j, hj, rfl, hno, hbr⟩ := hrel
    by_cases hlt : (j : Int) < (n : Int)
    · have hjl : j < all.length := by rw [Hn.out]; omega
      obtain ⟨u0, u1, hu0, hu1, hs⟩ := hR.out.get hjl
      obtain ⟨ad, rfl, _, c0⟩ := (hO.out.next hbr.out).at hu0
      obtain ⟨ad', e', _, c1⟩ := (hO.out.next hbr.out).at hu1
      injection e' with e'
      subst e'
      have c1 := cell_off c1 (by decide)
      obtain ⟨kk, _, _, hchk⟩ := hat.out j hjl
      have hf1 := Lib.hid (hfe.out j hjl)
      have hj1 := Lib.hid (fun (q : Nat) (hq : q < j + 1) (h1 : txL (at_ all j).1 ≠ key) => show txL (at_ all q).1 ≠ key from by
        rcases Nat.lt_or_ge q j with h2 | h2
        · exact hno.out q h2
        · rw [show q = j by omega]; exact h1)
      obtain ⟨y, hy⟩ : ∃ y, at_ all j = y := ⟨_, rfl⟩
      rw [hy] at hs hchk hf1 hj1
      have hs := hs.next hbr.out
      obtain ⟨A1, n1, c1', A2, n2, c2', e5, hl1, hl2, ho1, ho2⟩ := hs
      simp at e5
      obtain ⟨rfl, rfl⟩ := e5
      obtain ⟨hL10, hLab⟩ := chkL_ok hchk
      have htx : textN y.1 = (txL y.1, 0) := by unfold textN txL; rw [hchk, if_neg (by simp)]
      have q1 : (0 : Int) ≤ (j : Int) := by omega
      have hbw := Lib.hid (bnext Hb1.out hbr.out)
      go_upto_region 4 with fail
      obtain ⟨W6, hW6⟩ : ∃ W6, wr.alloc (.cells #[.slice A1 n1 c1', .slice A2 n2 c2'] 101) = W6 := ⟨_, rfl⟩
      obtain ⟨q6, hq6⟩ : ∃ q6, wr.heap.size = q6 := ⟨_, rfl⟩
      have hb6 : Below wr.heap.size wr W6 := by rw [← hW6]; exact one_allocB _ _
      have k6 : Blk W6 q6 101 #[.slice A1 n1 c1', .slice A2 n2 c2'] := by rw [← hW6]; exact Blk.newD _ _ _ _ hq6
      rw [hW6, hq6]
      have x0 : W6.cell? ⟨q6, 0, none⟩ = some (.slice A1 n1 c1') := k6.cell 0
      have HT := lbtext_any A1 n1 c1' y.1 hl1 (by unfold maxLen; omega) W6 (Has.of_own (own_next ho1 hb6)) hLab (HS.out.next (bnext hbw.out hb6))
      rw [htx] at HT
      have HT := Lib.hid HT
      have Hl2 := Lib.hid hl2
      have Ho2 := Lib.hid (own_next ho2 hb6)
      have K6 := Lib.hid k6
      have Hb6 := Lib.hid hb6
      have Hchk := Lib.hid hchk
      clear hW6 hq6 hb6 k6 c0 c1 hu0 hu1 hl1 hl2 ho1 ho2 hchk hL10 hLab htx hy
      by_cases hk : txL y.1 = key
      · have e := Lib.hid (hf1.out hk)
        rw [hk] at HT
        go_wp2_with fail
        refine HT.out.mono ?_
        rintro e9 w7 ⟨rfl, hb7⟩
        have x1 : w7.cell? ⟨q6, 1, none⟩ = some (.slice A2 n2 c2') := (K6.out.next hb7).cell 1
        have ho7 := Lib.hid (own_next Ho2.out hb7)
        have hb7 := Lib.hid (bnext hbr.out (bnext Hb6.out hb7))
        have Hk := Lib.hid hk
        clear hk x0
        go_wp2_with fail
        go_ret
        rw [e.out]
        exact RV.mk ⟨A2, n2, c2', rfl, Hl2.out, ho7.out, bnext Hb1.out hb7.out⟩
      · have ef2 : ((txL y.1).toList == key.toList) = false := by
          rw [beq_eq_false_iff_ne]
          exact fun e => hk (toList_eq e)
        have hno1 := Lib.hid (fun q hq => hj1.out q hq hk)
        obtain ⟨tx, htx⟩ : ∃ tx, txL y.1 = tx := ⟨_, rfl⟩
        rw [htx] at HT ef2
        clear hk htx
        go_wp2_with fail
        refine HT.out.mono ?_
        rintro e9 w7 ⟨rfl, hb7⟩
        have hb7 := Lib.hid (bnext hbr.out (bnext Hb6.out hb7))
        clear x0
        go_wp2_with fail
        go_roundw
        case rel => exact ⟨j + 1, by omega, by go_num, hno1, hb7⟩
        case measure => simp [intOf]; omega
    · have e := Lib.hid (hne.out fun q hq => hno.out q (by rw [Hn.out] at hq; omega))
      go_wp2_with fail
      go_ret
      rw [e.out]
      exact RV.mk ⟨none, 0, 0, rfl, rfl, World.ownsRow_nil _ _ _ _, bnext Hb1.out hbr.out⟩
end Go.Proofs.YtihjgbhnlejhfaaGreatDoor
namespace Go.Proofs.YtihjgbhnlejhfaaGreatDoor
open Go.RowKit Go.ChangeMaps

theorem HsAt.step {w w' : World} {base hb mb : Nat} {A : Option Addr} {c : Nat} {L : List NodE} {es : Array MapEntry} {clock : Nat} {kvs : List (Value × Value)} {ls : List (Nat × Nat)} {h : Hse} (k : HsAt w base hb mb A c L es clock kvs ls h) {p2 : Peer} (hex : ∃ p ∈ h.ps, p.nm = p2.nm)
    (hP : PeerAt w' base (locOf ls h.ps p2.nm).1 (locOf ls h.ps p2.nm).2 p2) (hO : OutS base (locOf ls h.ps p2.nm).2 w w') : HsAt w' base hb mb A c L es clock kvs ls { h with ps := setP h.ps p2 } :=
  ⟨hO.blk k.obj (by unfold StKind; decide), k.nodes, hO.own k.row (by unfold StKind; decide), fun e he => ⟨hO.own (k.tks e he).1 (by unfold StKind; decide), (k.tks e he).2⟩, k.peers.step hex hP hO, k.oh⟩
def PutHP (base hb : Nat) (h : Hse) (w w' : World) : Prop := HsM w' base hb h ∧ OutH base w w'
set_option maxRecDepth 1000000 in
set_option maxHeartbeats 8000000 in
theorem hput_any (base hb m : Nat) (h : Hse) (hg : HseOk m h) (hm : m ≤ 21) (hwr : h.write ≤ 20) (A : Option Addr) (n c : Nat) (L : List Lab) (hn : L.length = n) (hl : n ≤ maxLen) (hA : A = none → n = 0 ∧ c = 0) (x : Smp) (hx : SmpIn x) (hL : ∀ e ∈ L, LabOk e) (w : World) (hH : HsM w base hb h) (hbase : base ≤ w.heap.size) (hrow : Has w base A (labCs L)) (tS : SgAt w) (hsb : 0 < base) :
    Calls Tryz.prog 12 #[.pointer (some ⟨hb, 0, none⟩), .slice A n c, .agg #[.int .i64 x.t, .int .i64 x.v]] w (R1 (.tuple #[.int .i64 (putH h L x).2.1, .int .i64 (putH h L x).2.2]) (PutHP base hb (putH h L x).1 w)) := by
  have hrw := hrow.more hbase
  obtain ⟨W0, hW0⟩ : ∃ W0, w.alloc (.cells #[.int .i64 x.t, .int .i64 x.v] 26) = W0 := ⟨_, rfl⟩
  obtain ⟨q, hq⟩ : ∃ q, w.heap.size = q := ⟨_, rfl⟩
  have hb0 : Below w.heap.size w W0 := by rw [← hW0]; exact one_allocB _ _
  have kx : Blk W0 q 26 #[.int .i64 x.t, .int .i64 x.v] := by rw [← hW0]; exact Blk.newD _ _ _ _ hq
  have x0 : W0.cell? ⟨q, 0, none⟩ = some (.int .i64 x.t) := kx.cell 0
  have x1 : W0.cell? ⟨q, 1, none⟩ = some (.int .i64 x.v) := kx.cell 1
  have HEn := Lib.hid (enc_any A n c L hn hl x hx W0 (hrw.next hb0) hL (tS.next hb0))
  obtain ⟨⟨rc, er⟩, hr⟩ : ∃ r, encN L x = r := ⟨_, rfl⟩
  have HW0 := Lib.hid hW0
  have Hq := Lib.hid hq
  by_cases he : er = 0
  · subst he
    obtain ⟨hchk, hrec, _, _⟩ := enc_ok (L := L) (x := x) (by rw [hr])
    have hok : okP (L, x) := by unfold okP; rw [hr]
    have hp : putH h L x = ({ h with ps := addAt h.ps (liveK h.nodes h.copies h.ps (txL L)) (L, x) }, (liveK h.nodes h.copies h.ps (txL L)).length, if (liveK h.nodes h.copies h.ps (txL L)).length < h.write then 13 else 0) := by unfold putH; rw [hr, if_neg (by simp)]
    have hts : (txL L).size ≤ 1200 := txtB_size (chkM_asM hchk)
    have htx : textN L = (txL L, 0) := by unfold textN txL; rw [hchk, if_neg (by simp)]
    have hnd := Lib.hid (liveK_nodup h.nodes h.copies h.ps (txL L))
    have hfd := Lib.hid (liveK_find hg (txL L))
    have hin := Lib.hid (ownK_in hg (txL L))
    have hlen := live_sub h.nodes h.copies h.ps (txL L)
    have hc20 := hg.cop
    have HT := Lib.hid (fun (w1 : World) (hb : Below w.heap.size w w1) => by have := lbtext_any A n c L hn hl w1 (hrw.next hb) hL (tS.next hb); rw [htx] at this; exact this)
    rw [hp]
    rw [hr] at HEn
    obtain ⟨mb, NA, nc, NL, es, clock, kvs, ls, hh⟩ := hH
    have HO := Lib.hid (fun (w1 : World) (hb1 : Below w.heap.size w w1) => howners_any base hb (.slice NA NL.length nc) h.copies (.int .i64 h.write) (.int .i64 h.read) (.map (some mb)) hc20 NA NL.length nc NL rfl (Nat.le_trans (own_len hh.row).1 (own_len hh.row).2) (by rw [hh.nodes]; exact hg.ring) (txL L) (by unfold maxLen; omega) mb es clock kvs ls h.ps (by rw [hh.nodes]; exact hin.out) w1 (hh.next hb1).obj (Has.of_own (hh.next hb1).row) (fun e he => ((hh.next hb1).tks e he).ok) (hh.next hb1).peers)
    rw [hh.nodes] at HO
    obtain ⟨names, hnames⟩ : ∃ names, liveK h.nodes h.copies h.ps (txL L) = names := ⟨_, rfl⟩
    rw [hnames] at hnd hfd HO hlen ⊢
    obtain ⟨lp, hlp⟩ : ∃ lp, names.map (locOf ls h.ps) = lp := ⟨_, rfl⟩
    rw [hlp] at HO
    have Hlp := Lib.hid hlp
    obtain ⟨t, ht⟩ : ∃ t, names.length = t := ⟨_, rfl⟩
    have hlt : lp.length = t := by rw [← hlp, List.length_map, ht]
    have Ht := Lib.hid ht
    rw [ht] at hlen ⊢
    obtain ⟨er, her⟩ : ∃ er : Int, (if t < h.write then 13 else 0) = er := ⟨_, rfl⟩
    rw [her]
    have Her := Lib.hid her
    have ht20 : t ≤ 20 := by omega
    obtain ⟨key, hkey⟩ : ∃ key, txL L = key := ⟨_, rfl⟩
    rw [hkey] at HT HO
    have Hh := Lib.hid hh
    have Hg := Lib.hid hg
    have Hok := Lib.hid hok
    have HL := Lib.hid hL
    have Hrow := Lib.hid hrow
    have HS := Lib.hid tS
    have Hbase := Lib.hid hbase
    have Hx := Lib.hid hx
    have HA := Lib.hid hA
    have Hn := Lib.hid hn
    have hw3 : (h.write : Int) ≤ 20 := by omega
    clear her hp hr hchk hrec hts htx hnames hlp ht hkey hh hg hok hL hrow hrw tS hbase hx hA hn hin hW0 hq
    go_enter Tryz.func12, Tryz.ntmps12
    go_upto_region 1 with fail
    rw [HW0.out, Hq.out]
    go_wp2_with fail
    refine HEn.out.mono ?_
    rintro e w1 ⟨v, rfl, A1, n1, c1, rfl, ho1, hb1⟩
    have hb01 := bnext hb0 hb1
    have kx1 := kx.next hb1
    clear x0 x1 ho1
    go_wp2_with fail
    refine (HT.out _ hb01).mono ?_
    rintro e w2 ⟨rfl, hb2⟩
    have hb02 := bnext hb01 hb2
    have kx2 := kx1.next hb2
    have hh2 := Hh.out.next hb02
    have o0 : w2.cell? ⟨hb, 0, none⟩ = some (.slice NA NL.length nc) := hh2.obj.cell 0
    have o4 : w2.cell? ⟨hb, 4, none⟩ = some (.map (some mb)) := hh2.obj.cell 4
    have HO2 := Lib.hid (HO.out (w2.drewN 1) (below_drewN hb02 1))
    have Hb02 := Lib.hid hb02
    have Kx2 := Lib.hid kx2
    clear hh2 kx kx1 kx2 hb01 hb0 hb1 hb2 hb02
    go_upto_region 6 with fail
    have o0' : ∀ W : World, Below w2.heap.size w2 W → W.cell? ⟨hb, 0, none⟩ = some (.slice NA NL.length nc) ∧ W.cell? ⟨hb, 4, none⟩ = some (.map (some mb)) := fun W hW => ⟨(hW.cell (p := ⟨hb, 0, none⟩) (World.block_lt_of_cell? w2 ⟨hb, 0, none⟩ o0)).trans o0, (hW.cell (p := ⟨hb, 4, none⟩) (World.block_lt_of_cell? w2 ⟨hb, 4, none⟩ o4)).trans o4⟩
    have o0' := Lib.hid o0'
    go_cut [39, 40, 41] from 6 to 7 (fun v k i wx => ∃ PA pc, v = .slice PA t pc ∧ k = .int .i64 (t : Nat) ∧ i = .int .i64 0 ∧ Hid (wx.ownsRow (w2.drewN 1).heap.size 72 1 (.slice PA t pc) t (ptrCs lp)) ∧ Hid (Below w2.heap.size w2 wx))
    case first =>
      go_region_held_law (fun w' => w'.cell? ⟨hb, 0, none⟩ = some (.slice NA NL.length nc) ∧ w'.cell? ⟨hb, 4, none⟩ = some (.map (some mb)))
        (first | exact o0'.out _ (Below.refl _ _) | exact o0'.out _ (below_drewN (Below.refl _ _) 1) | exact o0'.out _ (by assumption))
        (first
          | (go_at_call 39
             refine (HO2.out).mono ?_
             rintro e w3 ⟨v, rfl, PA, pc, rfl, hoP, hb3⟩
             rw [hlt] at hoP
             have hb23 : Below w2.heap.size w2 w3 := bnext (below_drewN (Below.refl _ _) 1) hb3))
      all_goals
        try rw [hlt]
        go_wp2_with fail
        go_meet
        exact ⟨PA, pc, rfl, rfl, rfl, Lib.hid hoP, Lib.hid hb23⟩
    case rest =>
    obtain ⟨PA, pc, rfl, rfl, rfl, hoP, hb23⟩ := hcut
    have hoP := hoP.out
    have hb23 := hb23.out
    have hh3 := Lib.hid (Hh.out.next (bnext Hb02.out hb23))
    have ko3 := Lib.hid (OutH.of (bnext Hb02.out hb23) Hbase.out)
    have kx3 := Lib.hid (Kx2.out.next hb23)
    have hoP := Lib.hid hoP
    clear hb23 o0 o4 o0'
    go_wp2_with fail
    go_loopw [12, 41] (fun nv i wr => ∃ j : Nat, j ≤ t ∧ nv = .int .i64 (j : Nat) ∧ i = .int .i64 (j : Nat) ∧ Hid (HsAt wr base hb mb NA nc NL es clock kvs ls { h with ps := addAt h.ps (names.take j) (L, x) }) ∧ Hid (OutH base w wr) ∧ Hid (wr.ownsRow (w2.drewN 1).heap.size 72 1 (.slice PA t pc) t (ptrCs lp)) ∧ Hid (Blk wr q 26 #[.int .i64 x.t, .int .i64 x.v])) (fun _ i _ => t + 5 - (intOf i).toNat)
    case atStart => exact ⟨0, by omega, rfl, rfl, Lib.hid (by rw [List.take_zero, addAt_nil]; exact hh3.out), ko3, hoP, kx3⟩
    case round =>
      obtain ⟨j, hj, rfl, rfl, hhj, hoj, hPj, kxj⟩ := hrel
      have x0 : wr.cell? ⟨q, 0, none⟩ = some (.int .i64 x.t) := kxj.out.cell 0
      have x1 : wr.cell? ⟨q, 1, none⟩ = some (.int .i64 x.v) := kxj.out.cell 1
      by_cases hjt : (j : Int) < (t : Int)
      · have hjn : j < names.length := by rw [Ht.out]; omega
        have hjp : j < lp.length := by omega
        have hnm := at_mem hjn
        obtain ⟨p, hf, hpm⟩ := hfd.out _ hnm
        have hlj : at_ lp j = locOf ls h.ps (at_ names j) := by rw [at_eq hjp, at_eq hjn]; simp only [← Hlp.out, List.getElem_map]
        have hnot : at_ names j ∉ names.take j := fun hmem => by
          obtain ⟨i, hi, ei⟩ := List.getElem_of_mem hmem
          rw [List.length_take] at hi
          rw [List.getElem_take, at_eq hjn] at ei
          exact List.pairwise_iff_getElem.1 hnd.out i j (by omega) hjn (by omega) ei
        have htk : names.take (j + 1) = names.take j ++ [at_ names j] := by rw [List.take_add_one, List.getElem?_eq_getElem hjn, at_eq hjn]; rfl
        have hcell : (ptrCs lp)[j]? = some (.pointer (some ⟨(locOf ls h.ps (at_ names j)).1, 0, none⟩)) := by
          unfold ptrCs
          rw [List.getElem?_map, List.getElem?_eq_getElem hjp, ← at_eq hjp, hlj]
          rfl
        obtain ⟨ad, rfl, _, c0⟩ := (Has.of_own hPj.out).at hcell
        obtain ⟨nm, hnme⟩ : ∃ nm, at_ names j = nm := ⟨_, rfl⟩
        rw [hnme] at hf hnot htk c0
        have hpn : p.nm = nm := by unfold findP at hf; simpa using List.find?_some hf
        have hfj : findP (addAt h.ps (names.take j) (L, x)) nm = some p := by
          rw [find_addAt, hf]
          show some (if isIn (names.take j) p.nm = true then _ else p) = some p
          rw [if_neg (fun e => hnot (by rw [← hpn]; exact isIn_iff.1 e))]
        have hloc : locOf ls (addAt h.ps (names.take j) (L, x)) nm = locOf ls h.ps nm := locOf_congr ls nm (addAt_nm _ _ _)
        obtain ⟨p8, hp8, hPA⟩ := hhj.out.peers.prs.at (find_some_ex hfj)
        rw [hfj] at hp8
        injection hp8 with hp8
        subst hp8
        rw [hloc] at hPA
        obtain ⟨lc, hlc⟩ : ∃ lc, locOf ls h.ps nm = lc := ⟨_, rfl⟩
        rw [hlc] at hPA c0 hloc
        have hsz := Nat.le_trans Hbase.out hoj.out.size
        have hK := Lib.hid (keep_any base lc.1 lc.2 p ⟨by have := (Hg.out.peers p hpm).1; omega, fun y hy => ((Hg.out.peers p hpm).2 y hy).2⟩ A n c L Hn.out hl HA.out x Hx.out Hok.out HL.out wr hPA hsz ((Hrow.out.keep fun a ha => hoj.out.below.cell ha).more hsz) (hoj.out.signs HS.out hsb))
        have hnodup : (h.ps.map fun p : Peer => p.nm).Nodup := by
          have h1 := Hh.out.peers.nodup
          rw [Hh.out.peers.prs.names] at h1
          have h2 : (h.ps.map fun p : Peer => Value.string p.nm) = (h.ps.map fun p : Peer => p.nm).map Value.string := by rw [List.map_map]; rfl
          rw [h2] at h1
          exact (List.pairwise_map.1 h1).imp fun h e => h (by rw [e])
        have hstep := Lib.hid (fun (w4 : World) (hP4 : PeerAt w4 base lc.1 lc.2 (p.put (L, x))) (hO4 : OutS base lc.2 wr w4) => show HsAt w4 base hb mb NA nc NL es clock kvs ls { h with ps := addAt h.ps (names.take (j + 1)) (L, x) } from by
          rw [htk, addAt_snoc hnodup hnot hf]
          exact hhj.out.step (p2 := p.put (L, x)) (by rw [show (p.put (L, x)).nm = nm from hpn]; exact find_some_ex hfj) (by rw [show (p.put (L, x)).nm = nm from hpn, hloc]; exact hP4) (by rw [show (p.put (L, x)).nm = nm from hpn, hloc]; exact hO4))
        have q0 : (0 : Int) ≤ (j : Int) := by omega
        clear hjn hjp hnm hf hpm hlj hnot htk hcell hnme hpn hfj hloc hPA hlc hsz hnodup
        go_wp2_with fail
        refine hK.out.mono ?_
        rintro e w4 ⟨rfl, hP4, hO4⟩
        have hh4 := Lib.hid (hstep.out w4 hP4 hO4)
        have ho4 := Lib.hid (hoj.out.trans (OutH.ofS hO4))
        have hp4 := Lib.hid (hO4.own hPj.out (by unfold StKind; decide))
        have kx4 := Lib.hid (hO4.blk kxj.out (by unfold StKind; decide))
        clear hP4 hO4 x0 x1 c0
        go_wp2_with fail
        go_roundw
        case rel => exact ⟨j + 1, by omega, by go_num, by go_num, hh4, ho4, hp4, kx4⟩
        case measure => simp [intOf]; omega
      · obtain rfl : j = t := by omega
        have hz := hhj.out
        rw [show names.take j = names by rw [← Ht.out, List.take_length]] at hz
        have hz := Lib.hid hz
        have w2c : wr.cell? ⟨hb, 2, none⟩ = some (.int .i64 h.write) := hz.out.obj.cell 2
        by_cases hfew : (j : Int) < (h.write : Int)
        · have e13 : er = 13 := by rw [← Her.out, if_pos (by omega)]
          subst e13
          go_wp2_with fail
          go_ret2
          exact R1.mk rfl ⟨⟨mb, NA, nc, NL, es, clock, kvs, ls, hz.out⟩, hoj.out⟩
        · have e0 : er = 0 := by rw [← Her.out, if_neg (by omega)]
          subst e0
          go_wp2_with fail
          go_ret2
          exact R1.mk rfl ⟨⟨mb, NA, nc, NL, es, clock, kvs, ls, hz.out⟩, hoj.out⟩
  · have hp : putH h L x = (h, 0, er) := by unfold putH; rw [hr, if_pos he]
    rw [hp]
    rw [hr] at HEn
    have hH := Lib.hid hH
    have hbase := Lib.hid hbase
    have hb0 := Lib.hid hb0
    clear hp hr hn hl hA hL hrow hrw tS hW0 hq kx hg
    go_enter Tryz.func12, Tryz.ntmps12
    go_upto_region 1 with fail
    rw [HW0.out, Hq.out]
    go_wp2_with fail
    refine HEn.out.mono ?_
    rintro e w1 ⟨v, rfl, A1, n1, c1, rfl, ho1, hb1⟩
    have ho1 := Lib.hid ho1
    go_wp2_with fail
    go_ret2
    have hb01 := bnext hb0.out hb1
    exact R1.mk rfl ⟨hH.out.next hb01, OutH.of hb01 hbase.out⟩
end Go.Proofs.YtihjgbhnlejhfaaGreatDoor
namespace Go.Proofs.YtihjgbhnlejhfaaGreatDoor
open Go.RowKit Go.ChangeMaps

/-- some peers changed -/
def mapAt (ps : List Peer) (ns : List ByteArray) (f : Peer → Peer) : List Peer := ps.map fun p : Peer => if isIn ns p.nm then f p else p
theorem mapAt_nil (ps : List Peer) (f : Peer → Peer) : mapAt ps [] f = ps := by
  unfold mapAt
  simp [isIn_nil]
theorem mapAt_nm {f : Peer → Peer} (hf : ∀ p, (f p).nm = p.nm) (ps : List Peer) (ns : List ByteArray) : (mapAt ps ns f).map (fun p : Peer => p.nm) = ps.map fun p : Peer => p.nm := by
  unfold mapAt
  rw [List.map_map]
  refine List.map_congr_left fun p _ => ?_
  show (if isIn ns p.nm = true then f p else p).nm = p.nm
  split
  · exact hf p
  · rfl
theorem find_mapAt {f : Peer → Peer} (hf : ∀ p, (f p).nm = p.nm) (ps : List Peer) (ns : List ByteArray) (nm : ByteArray) : findP (mapAt ps ns f) nm = (findP ps nm).map fun p : Peer => if isIn ns p.nm then f p else p := by
  unfold findP mapAt
  induction ps with
  | nil => rfl
  | cons p ps ih =>
    rw [List.map_cons, List.find?_cons, List.find?_cons]
    have e : (if isIn ns p.nm then f p else p).nm = p.nm := by
      split
      · exact hf p
      · rfl
    rw [e]
    by_cases h : p.nm = nm
    · simp [h]
    · simp only [h, decide_false]
      exact ih
theorem peer_uniq {ps : List Peer} (hn : (ps.map fun p : Peer => p.nm).Nodup) {p r : Peer} (hp : p ∈ ps) (hr : r ∈ ps) (e : r.nm = p.nm) : r = p := by
  obtain ⟨i, hi, ei⟩ := List.getElem_of_mem hr
  obtain ⟨j, hj, ej⟩ := List.getElem_of_mem hp
  have h1 := List.pairwise_iff_getElem.1 hn
  rcases Nat.lt_trichotomy i j with hlt | hlt | hlt
  · exact absurd (by rw [List.getElem_map, List.getElem_map, ei, ej, e]) (h1 i j (by simpa using hi) (by simpa using hj) hlt)
  · subst hlt; rw [← ei, ← ej]
  · exact absurd (by rw [List.getElem_map, List.getElem_map, ei, ej, e]) (h1 j i (by simpa using hj) (by simpa using hi) hlt)
theorem mapAt_snoc {f : Peer → Peer} (hf : ∀ p, (f p).nm = p.nm) {ps : List Peer} (hn : (ps.map fun p : Peer => p.nm).Nodup) {ns : List ByteArray} {nm : ByteArray} (hno : nm ∉ ns) {p : Peer} (hp : findP ps nm = some p) : mapAt ps (ns ++ [nm]) f = setP (mapAt ps ns f) (f p) := by
  obtain ⟨hmem, hpm⟩ := findP_mem hp
  have hno2 : isIn ns nm = false := by
    cases h : isIn ns nm with
    | false => rfl
    | true => exact absurd (isIn_iff.1 h) hno
  unfold mapAt setP
  rw [List.map_map]
  refine List.map_congr_left fun r hr => ?_
  have hrn : (if isIn ns r.nm = true then f r else r).nm = r.nm := by
    split
    · exact hf r
    · rfl
  show (if isIn (ns ++ [nm]) r.nm = true then f r else r) = if (if isIn ns r.nm = true then f r else r).nm = (f p).nm then f p else (if isIn ns r.nm = true then f r else r)
  rw [hrn, isIn_app, isIn_one, hf p, hpm]
  by_cases he : r.nm = nm
  · have hrp : r = p := peer_uniq hn hmem hr (by rw [he, hpm])
    subst hrp
    rw [if_pos he, show isIn ns r.nm = false by rw [he]; exact hno2, show decide (nm = r.nm) = true from decide_eq_true he.symm]
    rfl
  · rw [if_neg he, decide_eq_false (fun e => he e.symm), Bool.or_false]
theorem setP_setP (ps : List Peer) {a b : Peer} (h : a.nm = b.nm) : setP (setP ps a) b = setP ps b := by
  unfold setP
  rw [List.map_map]
  refine List.map_congr_left fun r _ => ?_
  show (if (if r.nm = a.nm then a else r).nm = b.nm then b else (if r.nm = a.nm then a else r)) = if r.nm = b.nm then b else r
  by_cases e : r.nm = a.nm
  · rw [if_pos e, if_pos h, if_pos (e.trans h)]
  · rw [if_neg e, if_neg (fun e2 : r.nm = b.nm => e (e2.trans h.symm))]
theorem setP_self {ps : List Peer} (hn : (ps.map fun p : Peer => p.nm).Nodup) {p : Peer} (hp : p ∈ ps) : setP ps p = ps := by
  unfold setP
  conv => rhs; rw [← List.map_id ps]
  refine List.map_congr_left fun r hr => ?_
  by_cases e : r.nm = p.nm
  · rw [if_pos e, peer_uniq hn hp hr e]; rfl
  · rw [if_neg e]; rfl
theorem setP_nm (ps : List Peer) (a : Peer) : (setP ps a).map (fun p : Peer => p.nm) = ps.map fun p : Peer => p.nm := by
  unfold setP
  rw [List.map_map]
  refine List.map_congr_left fun p _ => ?_
  show (if p.nm = a.nm then a else p).nm = p.nm
  split
  · rename_i e; exact e.symm
  · rfl
/-- a peer that was given samples -/
def Peer.gave (p : Peer) (L : List Lab) (l : List Smp) : Peer := { p with qs := p.qs ++ l.map fun x => (L, x) }
theorem gave_nil (p : Peer) (L : List Lab) : p.gave L [] = p := by unfold Peer.gave; simp
theorem gave_put (p : Peer) (L : List Lab) (l : List Smp) (x : Smp) : (p.gave L l).put (L, x) = p.gave L (l ++ [x]) := by unfold Peer.gave Peer.put; simp
def giveF (L : List Lab) (all : List Smp) (p : Peer) : Peer := p.gave L (lacks (hasK p (txL L)) all)
theorem giveTo_map (ps : List Peer) (ns : List ByteArray) (L : List Lab) (all : List Smp) : giveTo ps ns L all = mapAt ps ns (giveF L all) := rfl
theorem lacks_nil (had : List Smp) : lacks had [] = [] := rfl
theorem lacks_snoc (had l : List Smp) (x : Smp) : lacks had (l ++ [x]) = lacks had l ++ if lackB had x = true then [x] else [] := by
  rw [lacks_eq, lacks_eq, List.filter_append]
  congr 1
  rw [List.filter_cons, List.filter_nil]
/-- the blocks of the peers' stores -/
def Feet (w : World) (ls : List (Nat × Nat)) (q : Nat) : Prop := ∃ l ∈ ls, q ∈ footS w l.2
/-- a house's methods leave all blocks alone but those of its peers' stores -/
structure OutF (ls : List (Nat × Nat)) (w w' : World) : Prop where
  size : w.heap.size ≤ w'.heap.size
  block : ∀ q, q < w.heap.size → ¬ Feet w ls q → w'.heap[q]? = w.heap[q]?
  grow : ∀ q, Feet w' ls q → Feet w ls q ∨ w.heap.size ≤ q
theorem OutF.refl (ls : List (Nat × Nat)) (w : World) : OutF ls w w := ⟨Nat.le_refl _, fun _ _ _ => rfl, fun _ h => .inl h⟩
theorem OutF.trans {ls : List (Nat × Nat)} {a b c : World} (h : OutF ls a b) (k : OutF ls b c) : OutF ls a c :=
  ⟨Nat.le_trans h.size k.size, fun q hq hn => (k.block q (Nat.lt_of_lt_of_le hq h.size) fun hm => by
    rcases h.grow q hm with e | e
    · exact hn e
    · omega).trans (h.block q hq hn), fun q hq => by
    rcases k.grow q hq with e | e
    · exact h.grow q e
    · exact .inr (Nat.le_trans h.size e)⟩
theorem feet_iff {w : World} {ls : List (Nat × Nat)} {q : Nat} : Feet w ls q ↔ ∃ f ∈ ls.map (fun l => footS w l.2), q ∈ f := by
  constructor
  · rintro ⟨l, hl, hq⟩; exact ⟨_, List.mem_map.2 ⟨l, hl, rfl⟩, hq⟩
  · rintro ⟨f, hf, hq⟩
    obtain ⟨l, hl, rfl⟩ := List.mem_map.1 hf
    exact ⟨l, hl, hq⟩
theorem OutF.of {w w' : World} {base : Nat} {kvs : List (Value × Value)} {ls : List (Nat × Nat)} {ps : List Peer} (h : PRows w base kvs ls ps) (hb : Below w.heap.size w w') : OutF ls w w' :=
  ⟨hb.size, fun q hq _ => hb.block q hq, fun q hq => by
    rw [feet_iff, h.foots hb, ← feet_iff] at hq
    exact .inl hq⟩
theorem Feet.lt {w : World} {base : Nat} {kvs : List (Value × Value)} {ls : List (Nat × Nat)} {ps : List Peer} (h : PRows w base kvs ls ps) {q : Nat} (hq : Feet w ls q) : q < w.heap.size := by
  obtain ⟨f, hf, hq⟩ := feet_iff.1 hq
  exact h.lt f hf q hq
/-- what is new stands apart from all stores, and stays so -/
theorem OutF.apart {w w' : World} {ls : List (Nat × Nat)} (hO : OutF ls w w') {q : Nat} (h1 : q < w.heap.size) (h2 : ¬ Feet w ls q) : ¬ Feet w' ls q := fun hq => by
  rcases hO.grow q hq with e | e
  · exact h2 e
  · omega
theorem HsAt.stepF {w w' : World} {base hb mb : Nat} {A : Option Addr} {c : Nat} {L : List NodE} {es : Array MapEntry} {clock : Nat} {kvs : List (Value × Value)} {ls : List (Nat × Nat)} {h : Hse} (k : HsAt w base hb mb A c L es clock kvs ls h) {p2 : Peer} (hex : ∃ p ∈ h.ps, p.nm = p2.nm)
    (hP : PeerAt w' base (locOf ls h.ps p2.nm).1 (locOf ls h.ps p2.nm).2 p2) (hO : OutS base (locOf ls h.ps p2.nm).2 w w') : HsAt w' base hb mb A c L es clock kvs ls { h with ps := setP h.ps p2 } ∧ OutH base w w' ∧ OutF ls w w' := by
  have hn : (h.ps.map fun p : Peer => Value.string p.nm).Nodup := by rw [← k.peers.prs.names]; exact k.peers.nodup
  obtain ⟨_, _, i3⟩ := k.peers.prs.step hn hex k.peers.apart hP hO
  have hlm := locOf_mem k.peers.prs.len2 hex
  exact ⟨k.step hex hP hO, OutH.ofS hO, hO.size, fun q hq hf => hO.block q hq fun hm => hf ⟨_, hlm, hm⟩, fun q hq => by
    obtain ⟨f, hf, hq⟩ := feet_iff.1 hq
    rcases i3 f hf q hq with e | e
    · exact .inl (feet_iff.2 e)
    · exact .inr e⟩
end Go.Proofs.YtihjgbhnlejhfaaGreatDoor
