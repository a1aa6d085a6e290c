/- Texts of the proof of HouseAcks, joined (by merge.py). Conditions: each theorem's own hypotheses. -/
import Derived.Test.YtihjgbhnlejhfaaGreatDoorHouseAcksP0
import Derived.Test.YtihjgbhnlejhfaaGreatDoorHouseAcksP17
import Derived.Test.YtihjgbhnlejhfaaGreatDoorHouseAcksP19
import Derived.Test.YtihjgbhnlejhfaaGreatDoorHouseAcksP20
import Derived.Test.YtihjgbhnlejhfaaGreatDoorHouseAcksP33
import Derived.Test.YtihjgbhnlejhfaaGreatDoorHouseAcksP37
import Derived.Test.YtihjgbhnlejhfaaGreatDoorHouseAcksP41
import Derived.Test.YtihjgbhnlejhfaaGreatDoorHouseAcksP42
import Derived.Shelf.Abstract
namespace Go.Proofs.YtihjgbhnlejhfaaGreatDoor
open Go.RowKit Go.ChangeMaps
open Go.WideMaps (KeyLaw)

/-- 'delete(m, key)' -/
theorem del_shape {P : Program} {w : World} {t k e : TypeId} {b : Nat} {es : Array MapEntry} {clock : Nat} {kvs : List (Value × Value)} (K : KeyLaw P k) (ht : P.underlying t = some (.map k e)) (hb : w.heap[b]? = some (.map es clock)) (S : MpS P k es clock kvs) {key : Value} {kl : Lit} (hkey : keyOf P k key = some kl) :
    ∃ es' kvs', (∀ ty, (Builtin.delete_ #[t, k] ty #[.map (some b), key]).run P w = .ok (.tuple #[]) (setBlock w b (.map es' clock))) ∧ MpS P k es' clock kvs' ∧ (((∀ p ∈ kvs, p.1 ≠ key) ∧ kvs' = kvs) ∨ ∃ pre v post, kvs = pre ++ (key, v) :: post ∧ kvs' = pre ++ post) := by
  rcases K.find w hkey es.toList S.keys with ⟨h1, h2⟩ | ⟨j, e0, h1, h2, h3⟩
  · refine ⟨es, kvs, ?_, S, .inl ⟨fun p hp => ?_, rfl⟩⟩
    · intro ty; simp [Builtin.delete_, run_underlying ht, MapKept.run_getObj_map hb, K.check w _ hkey, h1, MapKept.run_setObj_map _ hb, Result.andThen, setBlock]
    · rw [← S.pairs] at hp
      obtain ⟨x, hx, rfl⟩ := List.mem_map.1 hp
      exact h2 x hx
  · have hjl : j < es.toList.length := (List.getElem?_eq_some_iff.1 h2).1
    have hjs : j < es.size := by simpa using hjl
    have hsub : (es.eraseIdxIfInBounds j).toList = es.toList.eraseIdx j := by
      unfold Array.eraseIdxIfInBounds
      rw [dif_pos hjs]
      simp
    have hsp := split_at _ _ _ h2
    have her : es.toList.eraseIdx j = es.toList.take j ++ es.toList.drop (j + 1) := List.eraseIdx_eq_take_drop_succ _ _
    have hsl : (es.eraseIdxIfInBounds j).toList.Sublist es.toList := by rw [hsub]; exact List.eraseIdx_sublist _ _
    obtain ⟨s1, s2, s3⟩ := S.stamped
    refine ⟨es.eraseIdxIfInBounds j, (es.toList.take j).map (fun e => (e.key, e.val)) ++ (es.toList.drop (j + 1)).map (fun e => (e.key, e.val)), ?_, ⟨?_, ⟨fun x hx => s1 x (hsl.subset hx), (hsl.map _).nodup s2, (hsl.map _).nodup s3⟩, fun x hx => S.keys x (hsl.subset hx)⟩, .inr ⟨(es.toList.take j).map (fun e => (e.key, e.val)), e0.val, (es.toList.drop (j + 1)).map (fun e => (e.key, e.val)), ?_, rfl⟩⟩
    · intro ty; simp [Builtin.delete_, run_underlying ht, MapKept.run_getObj_map hb, K.check w _ hkey, h1, MapKept.run_setObj_map _ hb, Result.andThen, setBlock]
    · rw [hsub, her, List.map_append]
    · rw [← S.pairs]
      conv => lhs; rw [hsp]
      simp [h3]
theorem StM.foot_ge {w : World} {base g : Nat} {dk : List Nat} {sf : Int} {st : StD} (h : StM w base g dk sf st) : ∀ q ∈ footS w g, base ≤ q := by
  obtain ⟨b, dg, A, c, es, clock, kvs, h⟩ := h
  intro q hq
  rw [h.foot] at hq
  simp only [List.mem_cons, Option.mem_toList] at hq
  rcases hq with e | e | e | e
  · rw [e]; exact h.og
  · rw [e]; exact h.ob
  · rw [e]; exact h.od
  · have e2 : (Value.slice A dk.length c).ownBlock = some q := by
      cases A with
      | none => cases e
      | some a => simpa [Value.ownBlock] using e
    exact (own_block h.disk.2 q e2).1
theorem StM.less {w : World} {base b2 g : Nat} {dk : List Nat} {sf : Int} {st : StD} (h : StM w base g dk sf st) (hb : b2 ≤ base) : StM w b2 g dk sf st := by
  obtain ⟨b, dg, A, c, es, clock, kvs, h⟩ := h
  have hr : ∀ {kvs : List (Value × Value)} {st : StD}, StRows w base kvs st → StRows w b2 kvs st := fun k => by
    induction k with
    | nil => exact .nil
    | cons h1 _ ih => exact .cons (h1.less hb) ih
  exact ⟨b, dg, A, c, es, clock, kvs, { obj := h.obj, mp := h.mp, shape := h.shape, rows := hr h.rows, disk := ⟨h.disk.1, own_less h.disk.2 hb⟩, og := Nat.le_trans hb h.og, ob := Nat.le_trans hb h.ob, od := Nat.le_trans hb h.od }⟩
/-- a peer that is new -/
def Peer.new (nm : ByteArray) : Peer := ⟨nm, [], true⟩
def FreshP (w : World) (v : Value) (w' : World) : Prop := ∃ pb g, v = .pointer (some ⟨pb, 0, none⟩) ∧ (∀ nm, PeerAt w' w.heap.size pb g (Peer.new nm)) ∧ Below w.heap.size w w'
set_option maxRecDepth 100000 in
theorem fresh_any (w : World) : Calls Tryz.prog 33 #[] w (RV (FreshP w)) := by
  have hN := Lib.hid (snew_any w)
  go_enter Tryz.func33, Tryz.ntmps33
  go_wp2_with fail
  refine hN.out.mono ?_
  rintro e w1 ⟨v, rfl, g, rfl, hM, hb1⟩
  have hM := Lib.hid hM
  have hb1 := Lib.hid hb1
  go_wp2_with fail
  go_ret
  have hb2 : Below w1.heap.size w1 (w1.alloc (.cells #[.pointer (some ⟨g, 0, none⟩), .bool true] 99)) := one_allocB _ _
  exact RV.mk ⟨_, g, rfl, fun nm => ⟨Blk.new _ _ _, hM.out.next hb2, hb1.out.size⟩, bnext hb1.out hb2⟩
theorem PRows.snoc {w : World} {base : Nat} {kvs : List (Value × Value)} {ls : List (Nat × Nat)} {ps : List Peer} (h : PRows w base kvs ls ps) {pb g : Nat} {p : Peer} (hp : PeerAt w base pb g p) : PRows w base (kvs ++ [(.string p.nm, .pointer (some ⟨pb, 0, Option.none⟩))]) (ls ++ [(pb, g)]) (ps ++ [p]) := by
  induction h with
  | nil => exact .cons (l := (pb, g)) hp .nil
  | cons h1 _ ih => exact .cons h1 ih
theorem PRows.app {w : World} {base : Nat} {kvs kvs' : List (Value × Value)} {ls ls' : List (Nat × Nat)} {ps ps' : List Peer} (h : PRows w base kvs ls ps) (h' : PRows w base kvs' ls' ps') : PRows w base (kvs ++ kvs') (ls ++ ls') (ps ++ ps') := by
  induction h with
  | nil => exact h'
  | cons h1 _ ih => exact .cons h1 ih
theorem PRows.split {w : World} {base : Nat} : ∀ {pre post : List (Value × Value)} {k v : Value} {ls : List (Nat × Nat)} {ps : List Peer}, PRows w base (pre ++ (k, v) :: post) ls ps → ∃ l1 l l2 p1 p p2, ls = l1 ++ l :: l2 ∧ ps = p1 ++ p :: p2 ∧ k = .string p.nm ∧ PRows w base pre l1 p1 ∧ PRows w base post l2 p2
  | [], post, k, v, ls, ps, h => by
    cases h with
    | cons h1 h2 => exact ⟨[], _, _, [], _, _, rfl, rfl, rfl, .nil, h2⟩
  | q :: pre, post, k, v, ls, ps, h => by
    cases h with
    | cons h1 h2 =>
      obtain ⟨l1, l, l2, p1, p, p2, rfl, rfl, h3, h4, h5⟩ := PRows.split h2
      exact ⟨_ :: l1, l, l2, _ :: p1, p, p2, rfl, rfl, h3, .cons h1 h4, h5⟩
theorem PMap.clone {w : World} {base mb : Nat} {es : Array MapEntry} {clock : Nat} {kvs : List (Value × Value)} {ls : List (Nat × Nat)} {ps : List Peer} (h : PMap w base mb es clock kvs ls ps) (hbase : base ≤ w.heap.size) : PMap (w.alloc (.map es clock)) base w.heap.size es clock kvs ls ps := by
  have hb : Below w.heap.size w (w.alloc (.map es clock)) := one_allocB _ _
  exact {
    mp := heap_alloc_new _ _
    shape := h.shape
    prs := h.prs.next hb
    apart := by rw [h.prs.foots hb]; exact h.apart
    mapart := fun l hl hm => by
      have h1 := Feet.lt h.prs (feet_next h.prs hb ⟨l, hl, hm⟩)
      omega
    om := hbase }
/-- only the map's own block changed -/
theorem PeerAt.only {w w' : World} {base pb g mb : Nat} {p : Peer} {es : Array MapEntry} {clock : Nat} (h : PeerAt w base pb g p) (hmb : w.heap[mb]? = some (.map es clock)) (hf : mb ∉ footS w g) (hb : ∀ q, q ≠ mb → w'.heap[q]? = w.heap[q]?) : PeerAt w' base pb g p ∧ footS w' g = footS w g := by
  have hcells : ∀ (k : Nat) (cs : Array Value) (t : TypeId) (fr : Nat × Nat), w.heap[k]? = some (Obj.cells cs t fr) → w'.heap[k]? = w.heap[k]? := fun k cs t fr hk => hb k fun e => by
    rw [e, hmb] at hk
    cases hk
  have hblk : ∀ (k : Nat) (t : TypeId) (cs : Array Value), Blk w k t cs → Blk w' k t cs := fun k t cs hk => (hcells k cs t _ hk).trans hk
  have hown : ∀ (b2 size n : Nat) (e : TypeId) (v : Value) (xs : List Value), w.ownsRow b2 e size v n xs → w'.ownsRow b2 e size v n xs := fun b2 size n e v xs ho => own_keepS ho fun q hq => by
    obtain ⟨cs, hc⟩ := own_kindS ho q hq
    exact hcells q cs e _ hc
  obtain ⟨b, dg, A, c, es2, clock2, kvs2, hS⟩ := h.st
  have hne : b ≠ mb := fun e => hf (by rw [hS.foot, e]; simp)
  have hS' : StAt w' base g b dg A c es2 clock2 kvs2 p.dk p.dk.length p.st := {
    obj := hblk _ _ _ hS.obj
    mp := (hb b hne).trans hS.mp
    shape := hS.shape
    rows := hS.rows.keep fun v y k => by
      obtain ⟨A1, n1, c1, A2, n2, c2, h1, h2, h3, h4, h5⟩ := k
      exact ⟨A1, n1, c1, A2, n2, c2, h1, h2, h3, hown _ _ _ _ _ _ h4, hown _ _ _ _ _ _ h5⟩
    disk := ⟨hblk _ _ _ hS.disk.1, hown _ _ _ _ _ _ hS.disk.2⟩
    og := hS.og
    ob := hS.ob
    od := hS.od }
  exact ⟨⟨hblk _ _ _ h.blk, ⟨_, _, _, _, _, _, _, hS'⟩, h.opb⟩, by rw [hS'.foot, hS.foot]⟩
theorem PRows.onlyM {w w' : World} {base mb : Nat} {kvs : List (Value × Value)} {ls : List (Nat × Nat)} {ps : List Peer} {es : Array MapEntry} {clock : Nat} (h : PRows w base kvs ls ps) (hmb : w.heap[mb]? = some (.map es clock)) (hf : ∀ l ∈ ls, mb ∉ footS w l.2) (hb : ∀ q, q ≠ mb → w'.heap[q]? = w.heap[q]?) : PRows w' base kvs ls ps ∧ (ls.map fun l => footS w' l.2) = ls.map fun l => footS w l.2 := by
  induction h with
  | nil => exact ⟨.nil, rfl⟩
  | @cons l p kvs ls ps h1 _ ih =>
    obtain ⟨i1, i2⟩ := ih fun l hl => hf l (List.mem_cons_of_mem _ hl)
    obtain ⟨s1, s2⟩ := h1.only hmb (hf l List.mem_cons_self) hb
    exact ⟨.cons s1 i1, by rw [List.map_cons, List.map_cons, i2, s2]⟩
/-- a new peer laid into the map -/
theorem PMap.add {w : World} {base mb : Nat} {es : Array MapEntry} {clock : Nat} {kvs : List (Value × Value)} {ls : List (Nat × Nat)} {ps : List Peer} (h : PMap w base mb es clock kvs ls ps) {pb g : Nat} {p : Peer} (hp : PeerAt w base pb g p) (hno : ∀ q ∈ ps, q.nm ≠ p.nm) (hg : ∀ q ∈ footS w g, ¬ Feet w ls q) (hm : mb ∉ footS w g)
    {es' : Array MapEntry} {clock' : Nat} {kvs' : List (Value × Value)} (hs : MpS Tryz.prog 9 es' clock' kvs') (hput : PutV kvs (.string p.nm) (.pointer (some ⟨pb, 0, none⟩)) kvs') : PMap (setBlock w mb (.map es' clock')) base mb es' clock' kvs' (ls ++ [(pb, g)]) (ps ++ [p]) := by
  have e : kvs' = kvs ++ [(.string p.nm, .pointer (some ⟨pb, 0, none⟩))] := by
    rcases hput with ⟨pre, v0, post, e, _⟩ | ⟨_, e⟩
    · exfalso
      have h1 : Value.string p.nm ∈ kvs.map (·.1) := by rw [e]; simp
      rw [h.prs.names] at h1
      obtain ⟨q, hq, e2⟩ := List.mem_map.1 h1
      injection e2 with e2
      exact hno q hq e2
    · exact e
  have hb : ∀ q, q ≠ mb → (setBlock w mb (.map es' clock')).heap[q]? = w.heap[q]? := fun q hq => heap_setBlock hq
  obtain ⟨i1, i2⟩ := h.prs.onlyM h.mp h.mapart hb
  obtain ⟨s1, s2⟩ := hp.only h.mp hm hb
  exact {
    mp := heap_setBlock_self (Array.getElem?_eq_some_iff.1 h.mp).1
    shape := hs
    prs := by rw [e]; exact i1.snoc s1
    apart := by
      rw [List.map_append, i2, List.map_cons, List.map_nil, s2]
      refine List.pairwise_append.2 ⟨h.apart, List.pairwise_singleton _ _, fun a ha b hb2 q hq hq2 => ?_⟩
      rw [List.mem_singleton] at hb2
      rw [hb2] at hq2
      exact hg q hq2 (feet_iff.2 ⟨a, ha, hq⟩)
    mapart := fun l hl hm2 => by
      rcases List.mem_append.1 hl with e2 | e2
      · have h1 : footS (setBlock w mb (.map es' clock')) l.2 ∈ ls.map fun l => footS (setBlock w mb (.map es' clock')) l.2 := List.mem_map_of_mem (f := fun l : Nat × Nat => footS (setBlock w mb (.map es' clock')) l.2) e2
        rw [i2] at h1
        obtain ⟨l0, hl0, e3⟩ := List.mem_map.1 h1
        rw [← e3] at hm2
        exact h.mapart l0 hl0 hm2
      · rw [List.mem_singleton] at e2
        rw [e2, s2] at hm2
        exact hm hm2
    om := h.om }
/-- a peer struck out of the map -/
theorem PMap.del {w : World} {base mb : Nat} {es : Array MapEntry} {clock : Nat} {kvs : List (Value × Value)} {ls : List (Nat × Nat)} {ps : List Peer} (h : PMap w base mb es clock kvs ls ps) (hn : (ps.map fun p : Peer => p.nm).Nodup) {nm : ByteArray}
    {es' : Array MapEntry} {kvs' : List (Value × Value)} (hs : MpS Tryz.prog 9 es' clock kvs') (hdel : ((∀ p ∈ kvs, p.1 ≠ .string nm) ∧ kvs' = kvs) ∨ ∃ pre v post, kvs = pre ++ (.string nm, v) :: post ∧ kvs' = pre ++ post) : ∃ ls', PMap (setBlock w mb (.map es' clock)) base mb es' clock kvs' ls' (ps.filter fun p : Peer => decide (p.nm ≠ nm)) := by
  have hb : ∀ q, q ≠ mb → (setBlock w mb (.map es' clock)).heap[q]? = w.heap[q]? := fun q hq => heap_setBlock hq
  have key : ∃ ls', PRows w base kvs' ls' (ps.filter fun p : Peer => decide (p.nm ≠ nm)) ∧ ls'.Sublist ls := by
    rcases hdel with ⟨hno, rfl⟩ | ⟨pre, v, post, rfl, rfl⟩
    · refine ⟨ls, ?_, List.Sublist.refl _⟩
      have e : (ps.filter fun p : Peer => decide (p.nm ≠ nm)) = ps := List.filter_eq_self.2 fun p hp => decide_eq_true fun e => by
        have h1 : Value.string p.nm ∈ kvs'.map (·.1) := by rw [h.prs.names]; exact List.mem_map.2 ⟨p, hp, rfl⟩
        obtain ⟨q, hq, e2⟩ := List.mem_map.1 h1
        exact hno q hq (by rw [e2, e])
      rw [e]; exact h.prs
    · obtain ⟨l1, l, l2, p1, p, p2, rfl, rfl, h3, h4, h5⟩ := h.prs.split
      injection h3 with h3
      refine ⟨l1 ++ l2, ?_, (List.Sublist.refl _).append (List.sublist_cons_self _ _)⟩
      rw [List.map_append, List.map_cons] at hn
      obtain ⟨_, hn2, hn3⟩ := List.nodup_append.1 hn
      obtain ⟨hn4, _⟩ := List.nodup_cons.1 hn2
      have e1 : (p1.filter fun p : Peer => decide (p.nm ≠ nm)) = p1 := List.filter_eq_self.2 fun q hq => decide_eq_true fun e => hn3 q.nm (List.mem_map.2 ⟨q, hq, rfl⟩) p.nm List.mem_cons_self (by rw [e, h3])
      have e2 : (p2.filter fun p : Peer => decide (p.nm ≠ nm)) = p2 := List.filter_eq_self.2 fun q hq => decide_eq_true fun e => hn4 (List.mem_map.2 ⟨q, hq, by rw [e, h3]⟩)
      rw [List.filter_append, List.filter_cons, e1, e2, if_neg (by simp [h3])]
      exact h4.app h5
  obtain ⟨ls', k1, k2⟩ := key
  have hmp2 : ∀ l ∈ ls', mb ∉ footS w l.2 := fun l hl => h.mapart l (k2.subset hl)
  obtain ⟨i1, i2⟩ := k1.onlyM h.mp hmp2 hb
  exact ⟨ls', {
    mp := heap_setBlock_self (Array.getElem?_eq_some_iff.1 h.mp).1
    shape := hs
    prs := i1
    apart := by rw [i2]; exact List.Pairwise.sublist (k2.map _) h.apart
    mapart := fun l hl hm2 => by
      have h1 : footS (setBlock w mb (.map es' clock)) l.2 ∈ ls'.map fun l => footS (setBlock w mb (.map es' clock)) l.2 := List.mem_map_of_mem (f := fun l : Nat × Nat => footS (setBlock w mb (.map es' clock)) l.2) hl
      rw [i2] at h1
      obtain ⟨l0, hl0, e3⟩ := List.mem_map.1 h1
      rw [← e3] at hm2
      exact hmp2 l0 hl0 hm2
    om := h.om }⟩
theorem cloneP_any (b : Nat) (es : Array MapEntry) (clock : Nat) (w : World) (hb : w.heap[b]? = some (.map es clock)) : Calls Tryz.prog 64 #[.map (some b)] w fun e w' => e = .returned (.map (some w.heap.size)) ∧ w' = w.alloc (.map es clock) := AnyW.maps_Clone Tryz.laysMcl b es clock w hb
/-- how many nodes have tokens -/
def tokN (l : List Nod) : Nat := (l.filter fun x : Nod => decide (0 < x.tk.length)).length
set_option maxRecDepth 1000000 in
set_option maxHeartbeats 2000000 in
theorem tokened_any (A : Option Addr) (n c : Nat) (L : List NodE) (hn : L.length = n) (hl : n ≤ 1000) (w : World) (h : Has w w.heap.size A (nodCs L)) :
    Calls Tryz.prog 31 #[.slice A n c] w (R1 (.int .i64 (tokN (L.map NodE.x))) (Below w.heap.size w)) := by
  have Hn := Lib.hid hn
  have Hh := Lib.hid h
  clear hn h
  go_enter Tryz.func31, Tryz.ntmps31
  go_wp2_with fail
  go_loopw [3, 8] (fun k i wr => ∃ j q : Nat, j ≤ n ∧ q ≤ j ∧ i = .int .i64 (j : Nat) ∧ k = .int .i64 (q : Nat) ∧ Hid (tokN ((L.take j).map NodE.x) = q) ∧ Below w.heap.size w wr) (fun _ i _ => n + 5 - (intOf i).toNat)
  case atStart => exact ⟨0, 0, by omega, by omega, rfl, rfl, Lib.hid rfl, Below.refl _ _⟩
  case round =>
    obtain ⟨j, q, hj, hqj, rfl, rfl, hq, hbr⟩ := hrel
    by_cases hlt : (j : Int) < (n : Int)
    · have hjl : j < L.length := by rw [Hn.out]; omega
      obtain ⟨ad, rfl, _, c0⟩ := (Hh.out.next hbr).at (nodCs_0 hjl)
      obtain ⟨ad', e', _, c1⟩ := (Hh.out.next hbr).at (nodCs_1 hjl)
      injection e' with e'
      subst e'
      have c1 := cell_off c1 (by decide)
      have hts : tokN ((L.take (j + 1)).map NodE.x) = tokN ((L.take j).map NodE.x) + if 0 < (at_ L j).t.l.length then 1 else 0 := by
        unfold tokN
        rw [take_snoc hjl, List.map_append, List.filter_append, List.length_append]
        congr 1
        show (List.filter _ [(at_ L j).x]).length = _
        rw [List.filter_cons, List.filter_nil]
        show (if decide (0 < (at_ L j).t.l.length) = true then _ else _ : List Nod).length = _
        by_cases h0 : 0 < (at_ L j).t.l.length
        · rw [if_pos (decide_eq_true h0), if_pos h0]; rfl
        · rw [if_neg (by simpa using h0), if_neg h0]; rfl
      obtain ⟨x, hx⟩ : ∃ x, at_ L j = x := ⟨_, rfl⟩
      rw [hx] at c0 c1 hts
      obtain ⟨p, hp⟩ : ∃ p, x.t.l.length = p := ⟨_, rfl⟩
      rw [hp] at c1 hts
      have q0 : (0 : Int) ≤ (j : Int) := by omega
      obtain ⟨W7, hW7⟩ : ∃ W7, wr.alloc (.cells #[.string x.nm, .slice x.t.A p x.t.c] 36) = W7 := ⟨_, rfl⟩
      obtain ⟨q7, hq7⟩ : ∃ q7, wr.heap.size = q7 := ⟨_, rfl⟩
      have hb7 : Below wr.heap.size wr W7 := by rw [← hW7]; exact one_allocB _ _
      have k7 : Blk W7 q7 36 #[.string x.nm, .slice x.t.A p x.t.c] := by rw [← hW7]; exact Blk.newD _ _ _ _ hq7
      have x0 : W7.cell? ⟨q7, 0, none⟩ = some (.string x.nm) := k7.cell 0
      have x1 : W7.cell? ⟨q7, 1, none⟩ = some (.slice x.t.A p x.t.c) := k7.cell 1
      have hbw := Lib.hid (bnext hbr hb7)
      by_cases h0 : (0 : Int) < (p : Int)
      · have hts := Lib.hid (by rw [if_pos (show 0 < p by omega)] at hts; exact hts)
        clear hjl hx hp hb7 k7
        go_upto_region 5 with fail
        (try rw [hW7]); (try rw [hq7])
        clear hW7 hq7 c0 c1
        go_wp2_with fail
        go_roundw
        case rel => exact ⟨j + 1, q + 1, by omega, by omega, by go_num, by go_num, Lib.hid (by rw [hts.out, hq.out]), hbw.out⟩
        case measure => simp [intOf]; omega
      · have hts := Lib.hid (by rw [if_neg (show ¬ 0 < p by omega)] at hts; exact hts)
        clear hjl hx hp hb7 k7
        go_upto_region 5 with fail
        (try rw [hW7]); (try rw [hq7])
        clear hW7 hq7 c0 c1
        go_wp2_with fail
        go_roundw
        case rel => exact ⟨j + 1, q, by omega, by omega, by go_num, rfl, Lib.hid (by rw [hts.out, hq.out]; rfl), hbw.out⟩
        case measure => simp [intOf]; omega
    · obtain rfl : n = j := by omega
      have hz := hq.out
      rw [show L.take n = L by rw [← Hn.out, List.take_length]] at hz
      have hz := Lib.hid hz
      go_wp2_with fail
      go_ret
      exact R1.mk rfl hbr
end Go.Proofs.YtihjgbhnlejhfaaGreatDoor
namespace Go.Proofs.YtihjgbhnlejhfaaGreatDoor
open Go.Sort

/-- where a node comes in -/
def plcI (l : List Nod) (nm : ByteArray) : Nat := l.findIdx fun y : Nod => !decide (nlt y.nm nm)
theorem plcI_place (l : List Nod) (nm : ByteArray) : PlaceR l nm (plcI l nm) := by
  refine ⟨List.findIdx_le_length, fun q hq => ?_, fun hi => ?_⟩
  · have hq2 : q < l.length := Nat.lt_of_lt_of_le hq List.findIdx_le_length
    have h1 := List.not_of_lt_findIdx hq
    rw [at_eq hq2]
    simpa using h1
  · have h1 := List.findIdx_getElem (p := fun y : Nod => !decide (nlt y.nm nm)) (xs := l) (w := hi)
    rw [at_eq hi]
    have h2 : ¬ nlt (l[plcI l nm]).nm nm := by
      unfold plcI
      simpa using h1
    exact h2
theorem plcI_eq {l : List Nod} {nm : ByteArray} {i : Nat} (h : PlaceR l nm i) : i = plcI l nm := by
  obtain ⟨a1, a2, a3⟩ := h
  obtain ⟨b1, b2, b3⟩ := plcI_place l nm
  rcases Nat.lt_trichotomy i (plcI l nm) with e | e | e
  · exact absurd (b2 i e) (a3 (by omega))
  · exact e
  · exact absurd (a2 _ e) (b3 (by omega))
def joinNd (l : List Nod) (x : Nod) : List Nod := insR l x (plcI l x.nm)
def leaveNd (l : List Nod) (name : ByteArray) : List Nod := l.filter fun y : Nod => decide (y.nm ≠ name)
def joinH (h : Hse) (x : Nod) : Hse × Int := if joinE h.nodes x ≠ 0 then (h, joinE h.nodes x) else becomeH h (joinNd h.nodes x) (h.ps ++ [Peer.new x.nm])
def leaveH (h : Hse) (name : ByteArray) : Hse × Int :=
  if leaveE h.nodes name ≠ 0 then (h, leaveE h.nodes name) else if tokN (leaveNd h.nodes name) < h.copies then (h, 1) else becomeH h (leaveNd h.nodes name) (h.ps.filter fun p : Peer => decide (p.nm ≠ name))
theorem joinE_ok {l : List Nod} {x : Nod} (h : joinE l x = 0) : RgOk l ∧ NdFit x ∧ (∀ y ∈ l, y.nm ≠ x.nm) ∧ l.length < 20 := by
  unfold joinE at h
  by_cases h1 : chkR l ≠ 0
  · rw [if_pos h1] at h; exact absurd h h1
  rw [if_neg h1] at h
  by_cases h2 : chkR [x] ≠ 0
  · rw [if_pos h2] at h; exact absurd h h2
  rw [if_neg h2] at h
  by_cases h3 : l.any (fun y => decide (y.nm = x.nm)) = true
  · rw [if_pos h3] at h; cases h
  rw [if_neg h3] at h
  by_cases h4 : l.length = 20
  · rw [if_pos h4] at h; cases h
  have hr := chkR_iff.1 (Decidable.not_not.1 h1)
  have h5 := hr.1
  refine ⟨hr, (chkR_iff.1 (Decidable.not_not.1 h2)).2.1 x (by simp), fun y hy e => h3 ?_, by omega⟩
  rw [List.any_eq_true]
  exact ⟨y, hy, decide_eq_true e⟩
theorem joinNd_mem {l : List Nod} {x y : Nod} : y ∈ joinNd l x ↔ y ∈ l ∨ y = x := by
  unfold joinNd insR
  rw [List.mem_append, List.mem_cons]
  constructor
  · rintro (h | h | h)
    · exact .inl (List.mem_of_mem_take h)
    · exact .inr h
    · exact .inl (List.mem_of_mem_drop h)
  · rintro (h | h)
    · rw [← List.take_append_drop (plcI l x.nm) l] at h
      rcases List.mem_append.1 h with h | h
      · exact .inl h
      · exact .inr (.inr h)
    · exact .inr (.inl h)
theorem join_house {puts : List Pt} {h : Hse} (k : HseI puts h) {x : Nod} (he : joinE h.nodes x = 0) : HseI puts { h with nodes := joinNd h.nodes x, ps := h.ps ++ [Peer.new x.nm] } := by
  obtain ⟨h1, h2, h3, h4⟩ := joinE_ok he
  refine ⟨insR_ok h1 h2 (plcI_place _ _) h3 h4, k.cop, fun p hp => ?_, k.ok, fun y hy => ?_, fun p hp => ?_, ?_⟩
  · rcases List.mem_append.1 hp with e | e
    · exact k.sub p e
    · rw [List.mem_singleton] at e
      rw [e]
      exact Subp.nil puts
  · rcases joinNd_mem.1 hy with e | e
    · obtain ⟨p, hp, e2⟩ := k.each y e
      exact ⟨p, List.mem_append_left _ hp, e2⟩
    · exact ⟨Peer.new x.nm, by simp, by rw [e]; rfl⟩
  · rcases List.mem_append.1 hp with e | e
    · obtain ⟨y, hy, e2⟩ := k.only p e
      exact ⟨y, joinNd_mem.2 (.inl hy), e2⟩
    · rw [List.mem_singleton] at e
      exact ⟨x, joinNd_mem.2 (.inr rfl), by rw [e]; rfl⟩
  · show ((h.ps ++ [Peer.new x.nm]).map fun p : Peer => p.nm).Nodup
    rw [List.map_append]
    refine List.nodup_append.2 ⟨k.names, by simp, fun a ha c hc e => ?_⟩
    simp [Peer.new] at hc
    obtain ⟨p, hp, e2⟩ := List.mem_map.1 ha
    obtain ⟨y, hy, e3⟩ := k.only p hp
    exact h3 y hy (by rw [e3, e2, e, hc])
theorem RgOk.filter {l : List Nod} (h : RgOk l) (f : Nod → Bool) : RgOk (l.filter f) :=
  ⟨Nat.le_trans (List.length_filter_le _ _) h.1, fun x hx => h.2.1 x (List.mem_filter.1 hx).1, List.Pairwise.sublist (List.filter_sublist.map _) h.2.2⟩
theorem leave_house {puts : List Pt} {h : Hse} (k : HseI puts h) (name : ByteArray) : HseI puts { h with nodes := leaveNd h.nodes name, ps := h.ps.filter fun p : Peer => decide (p.nm ≠ name) } := by
  refine ⟨k.ring.filter _, k.cop, fun p hp => k.sub p (List.mem_filter.1 hp).1, k.ok, fun y hy => ?_, fun p hp => ?_, ?_⟩
  · obtain ⟨h1, h2⟩ := List.mem_filter.1 hy
    obtain ⟨p, hp, e⟩ := k.each y h1
    exact ⟨p, List.mem_filter.2 ⟨hp, by rw [e]; exact h2⟩, e⟩
  · obtain ⟨h1, h2⟩ := List.mem_filter.1 hp
    obtain ⟨y, hy, e⟩ := k.only p h1
    exact ⟨y, List.mem_filter.2 ⟨hy, by rw [e]; exact h2⟩, e⟩
  · exact (List.filter_sublist.map _).nodup k.names
theorem joinH_sub {puts : List Pt} {h : Hse} (k : HseI puts h) (hm : puts.length ≤ 22) (x : Nod) : HseI puts (joinH h x).1 := by
  unfold joinH
  by_cases he : joinE h.nodes x ≠ 0
  · rw [if_pos he]; exact k
  · rw [if_neg he]; exact becomeH_sub k hm (join_house k (Decidable.not_not.1 he))
theorem leaveH_sub {puts : List Pt} {h : Hse} (k : HseI puts h) (hm : puts.length ≤ 22) (name : ByteArray) : HseI puts (leaveH h name).1 := by
  unfold leaveH
  split
  · exact k
  · split
    · exact k
    · exact becomeH_sub k hm (leave_house k name)
end Go.Proofs.YtihjgbhnlejhfaaGreatDoor
namespace Go.Proofs.YtihjgbhnlejhfaaGreatDoor
open Go.RowKit Go.ChangeMaps

theorem PeerAt.less {w : World} {base b2 pb g : Nat} {p : Peer} (h : PeerAt w base pb g p) (hb : b2 ≤ base) : PeerAt w b2 pb g p := ⟨h.blk, h.st.less hb, Nat.le_trans hb h.opb⟩
theorem CellsK.blk {w w' : World} {g : Nat} {t : TypeId} {cs : Array Value} (h : CellsK w w') (hk : Blk w g t cs) : Blk w' g t cs := (h.cells g cs t _ (blk_cells hk)).trans hk
theorem TkOwn.cells {w w' : World} {b : Nat} {e : NodE} (h : TkOwn w b e) (hc : CellsK w w') : TkOwn w' b e := ⟨hc.own h.1, h.2⟩
theorem JoinRP.two {L : List NodE} {x : NodE} {w w' : World} {v : Value} (h : JoinRP L x w v w') : ∃ vl er, v = .tuple #[vl, .int .i64 er] ∧ Hid (JoinRP L x w (.tuple #[vl, .int .i64 er]) w') := by
  rcases id h with ⟨⟨e, _, _, rfl, _⟩ | ⟨_, A, c, _, _, _, _, _, _, rfl, _⟩, _⟩
  · exact ⟨_, _, rfl, Lib.hid h⟩
  · exact ⟨_, _, rfl, Lib.hid h⟩
set_option maxRecDepth 1000000 in
set_option maxHeartbeats 8000000 in
theorem hjoin_any (base hb mb : Nat) (NA : Option Addr) (nc : Nat) (NL : List NodE) (es : Array MapEntry) (clock : Nat) (kvs : List (Value × Value)) (ls : List (Nat × Nat)) (puts : List Pt) (h : Hse) (hI : HseI puts h) (hm : puts.length ≤ 22) (hr20 : h.read ≤ 20) (hw20 : h.write ≤ 20)
    (nm : ByteArray) (T : Option Addr) (tc : Nat) (tl : List Nat) (p : Nat) (hp : tl.length = p) (w : World) (hx : NodOk w ⟨nm, ⟨T, tc, tl⟩⟩) (hh : HsAt w base hb mb NA nc NL es clock kvs ls h) (hbase : base ≤ w.heap.size) (tS : SgAt w) (hsb : 0 < base) :
    Calls Tryz.prog 35 #[.pointer (some ⟨hb, 0, none⟩), .agg #[.string nm, .slice T p tc]] w (R1 (.int .i64 (joinH h ⟨nm, tl⟩).2) (BecP base hb (joinH h ⟨nm, tl⟩).1 w)) := by
  obtain ⟨W0, hW0⟩ : ∃ W0, w.alloc (.cells #[.string nm, .slice T p tc] 36) = W0 := ⟨_, rfl⟩
  obtain ⟨q, hq⟩ : ∃ q, w.heap.size = q := ⟨_, rfl⟩
  have hb0 : Below w.heap.size w W0 := by rw [← hW0]; exact one_allocB _ _
  have kx : Blk W0 q 36 #[.string nm, .slice T p tc] := by rw [← hW0]; exact Blk.newD _ _ _ _ hq
  have x0 : W0.cell? ⟨q, 0, none⟩ = some (.string nm) := kx.cell 0
  have x1 : W0.cell? ⟨q, 1, none⟩ = some (.slice T p tc) := kx.cell 1
  have hh0 := hh.next hb0
  have o0 : W0.cell? ⟨hb, 0, none⟩ = some (.slice NA NL.length nc) := hh0.obj.cell 0
  have hb1 : Below w.heap.size w (W0.drewN 1) := below_drewN hb0 1
  have hrow1 := (hh.next hb1).row
  have hJ := join_any NA NL.length nc NL rfl (fun e => by subst e; exact (own_nil hrow1).2) (own_len hrow1).1 (Nat.le_trans (own_len hrow1).1 (own_len hrow1).2) nm T tc tl (W0.drewN 1) (Has.of_own hrow1) (fun e he => ((hh.next hb1).tks e he).ok) (hx.next hb1)
  rw [hp] at hJ
  have hBec := Lib.hid (fun (mb2 : Nat) (A2 : Option Addr) (n2 c2 : Nat) (NL2 : List NodE) (hn2 : NL2.length = n2) (hE : joinE h.nodes ⟨nm, tl⟩ = 0) (hN2 : NL2.map NodE.x = joinNd h.nodes ⟨nm, tl⟩) (es2 : Array MapEntry) (clock2 : Nat) (kvs2 : List (Value × Value)) (ls2 : List (Nat × Nat)) (w1 : World) (hb1 : Below w.heap.size w w1) (hr1 : w1.ownsRow base 36 2 (.slice A2 n2 c2) n2 (nodCs NL2)) (ht1 : ∀ e ∈ NL2, TkOwn w1 base e) (hP1 : PMap w1 base mb2 es2 clock2 kvs2 ls2 (h.ps ++ [Peer.new nm])) =>
    show Calls Tryz.prog 65 #[.pointer (some ⟨hb, 0, none⟩), .slice A2 n2 c2, .map (some mb2)] w1 (R1 (.int .i64 (joinH h ⟨nm, tl⟩).2) (BecP base hb (joinH h ⟨nm, tl⟩).1 w1)) from by
      have h1 := hbecome_any base hb mb NA nc NL es clock kvs ls puts h hI hm hr20 hw20 mb2 A2 n2 c2 NL2 hn2 es2 clock2 kvs2 ls2 (h.ps ++ [Peer.new nm]) (by rw [hN2]; exact join_house hI hE) w1 (hh.next hb1) (Nat.le_trans hbase hb1.size) hr1 ht1 hP1 (tS.next hb1) hsb
      have e : joinH h ⟨nm, tl⟩ = becomeH h (joinNd h.nodes ⟨nm, tl⟩) (h.ps ++ [Peer.new nm]) := by unfold joinH; rw [if_neg (by simpa using hE)]
      rw [e, ← hN2]
      exact h1)
  have hNo := Lib.hid (fun (e : Int) (he : e ≠ 0) (e2 : e = joinE h.nodes ⟨nm, tl⟩) (w1 : World) (hb1 : Below w.heap.size w w1) => show (joinH h ⟨nm, tl⟩).2 = e ∧ BecP base hb (joinH h ⟨nm, tl⟩).1 w w1 from by
    have e3 : joinH h ⟨nm, tl⟩ = (h, e) := by unfold joinH; rw [← e2, if_pos he]
    rw [e3]
    exact ⟨rfl, ⟨_, _, _, _, _, _, _, _, hh.next hb1⟩, OutH.of hb1 hbase⟩)
  have HI := Lib.hid hI
  have Hh := Lib.hid hh
  have Hbase := Lib.hid hbase
  have Hnodes := Lib.hid hh.nodes
  have hJ := Lib.hid hJ
  obtain ⟨res, hres⟩ : ∃ res, joinH h ⟨nm, tl⟩ = res := ⟨_, rfl⟩
  rw [hres] at hBec hNo ⊢
  have HW0 := Lib.hid hW0
  have Hq := Lib.hid hq
  have Hb1 := Lib.hid hb1
  have Hkx := Lib.hid (kx.next (below_drewN (Below.refl _ _) 1))
  clear hI hm hx hh hbase tS hp hb0 hh0 hrow1 hres hW0 hq kx hb1
  go_enter Tryz.func35, Tryz.ntmps35
  go_upto_region 1 with fail
  rw [HW0.out, Hq.out]
  have hS0 := Lib.hid (fun (W : World) (hW : Below W0.heap.size W0 W) => show W.cell? ⟨hb, 0, none⟩ = some (.slice NA NL.length nc) ∧ W.cell? ⟨q, 0, none⟩ = some (.string nm) ∧ W.cell? ⟨q, 1, none⟩ = some (.slice T p tc) from ⟨(hW.cell (p := ⟨hb, 0, none⟩) (World.block_lt_of_cell? W0 ⟨hb, 0, none⟩ o0)).trans o0, (hW.cell (p := ⟨q, 0, none⟩) (World.block_lt_of_cell? W0 ⟨q, 0, none⟩ x0)).trans x0, (hW.cell (p := ⟨q, 1, none⟩) (World.block_lt_of_cell? W0 ⟨q, 1, none⟩ x1)).trans x1⟩)
  go_region_held_law (fun w' => w'.cell? ⟨hb, 0, none⟩ = some (.slice NA NL.length nc) ∧ w'.cell? ⟨q, 0, none⟩ = some (.string nm) ∧ w'.cell? ⟨q, 1, none⟩ = some (.slice T p tc))
    (first | exact hS0.out _ (Below.refl _ _) | exact hS0.out _ (below_drewN (Below.refl _ _) 1) | exact hS0.out _ hb2w)
    (first
      | (go_at_call 21
         refine hJ.out.mono ?_
         rintro e w1 ⟨v, rfl, hc0⟩
         obtain ⟨vl, er, rfl, hcJ⟩ := hc0.two
         have hb2 := hcJ.out.2
         clear hc0
         have hb2w : Below W0.heap.size W0 w1 := bnext (below_drewN (Below.refl _ _) 1) hb2))
  clear hb2w
  have hb01 := bnext Hb1.out hb2
  have kx1 := Hkx.out.next hb2
  have hc := hcJ.out.1
  clear hcJ
  rcases hc with ⟨e, he, hin, hv, hE⟩ | ⟨i, A2, c2, NL2, hok, hfit, hpl, hnn, h20, hv, hx2, hown, htk⟩
  · simp at hv
    obtain ⟨rfl, rfl⟩ := hv
    rw [Hnodes.out] at hE
    obtain ⟨g1, g2⟩ := hNo.out er he hE w1 hb01
    have f1 : (er != 0) = true := by rw [bne_iff_ne]; exact he
    have g1 := Lib.hid g1
    have g2 := Lib.hid g2
    clear hE he kx1 hb01 hb2 x0 x1 o0
    go_wp2_with fail
    go_ret
    exact R1.mk (by rw [g1.out]; rfl) g2.out
  · simp at hv
    obtain ⟨rfl, rfl⟩ := hv
    have hi := plcI_eq hpl
    rw [Hnodes.out] at hx2 hnn hi hok
    have hlen := congrArg List.length Hnodes.out
    rw [List.length_map] at hlen
    have hE : joinE h.nodes ⟨nm, tl⟩ = 0 := by
      unfold joinE
      rw [if_neg (by rw [chkR_iff.2 hok]; simp), if_neg (by
        have h1 : RgOk [(⟨nm, tl⟩ : Nod)] := ⟨by simp, fun x hx => by rw [List.mem_singleton] at hx; rw [hx]; exact hfit, by simp⟩
        rw [chkR_iff.2 h1]; simp), if_neg, if_neg (by omega)]
      rw [List.any_eq_true]
      rintro ⟨y, hy, e⟩
      exact hnn y hy (of_decide_eq_true e)
    have hN2 : NL2.map NodE.x = joinNd h.nodes ⟨nm, tl⟩ := by rw [hx2, hi]; rfl
    obtain ⟨n2, hn2⟩ : ∃ n2, NL.length + 1 = n2 := ⟨_, rfl⟩
    have hl2 : NL2.length = n2 := by
      have h1 := congrArg List.length hx2
      rw [List.length_map, insR_len] at h1
      omega
    rw [hn2] at hown ⊢
    have HE := Lib.hid hE
    have HN2 := Lib.hid hN2
    have Hl2 := Lib.hid hl2
    have hno := Lib.hid (show ∀ q ∈ h.ps, q.nm ≠ nm from fun q hq e => by
      obtain ⟨y, hy, e2⟩ := HI.out.only q hq
      exact hnn y hy (by rw [e2, e]))
    have hh1 := Hh.out.next hb01
    have o4 : w1.cell? ⟨hb, 4, none⟩ = some (.map (some mb)) := hh1.obj.cell 4
    have hCl := Lib.hid (cloneP_any mb es clock w1 hh1.peers.mp)
    have hbw : base ≤ w1.heap.size := Nat.le_trans Hbase.out hb01.size
    obtain ⟨W2, hW2⟩ : ∃ W2, w1.alloc (.map es clock) = W2 := ⟨_, rfl⟩
    obtain ⟨mb2, hmb2⟩ : ∃ mb2, w1.heap.size = mb2 := ⟨_, rfl⟩
    have hP2 := hh1.peers.clone hbw
    have hb12 : Below w1.heap.size w1 W2 := by rw [← hW2]; exact one_allocB _ _
    have hsz : mb2 < W2.heap.size := by rw [← hW2, ← hmb2]; simp
    rw [hW2, hmb2] at hP2
    rw [hmb2] at hCl
    have hFr := Lib.hid (fun (w' : World) => fresh_any w')
    have hk20 : nm.size ≤ maxLen := by have h1 : nm.size ≤ 20 := hfit.2.1; unfold maxLen; omega
    have hown2 := Lib.hid (own_next (own_less hown (show base ≤ (W0.drewN 1).heap.size from Nat.le_trans Hbase.out Hb1.out.size)) hb12)
    have htk2 := Lib.hid (fun e he => ((htk e he).less (show base ≤ (W0.drewN 1).heap.size from Nat.le_trans Hbase.out Hb1.out.size)).next hb12)
    have hb02 := Lib.hid (bnext hb01 hb12)
    have kx2 := kx1.next hb12
    have x0 : W2.cell? ⟨q, 0, none⟩ = some (.string nm) := kx2.cell 0
    have Hkx2 := Lib.hid kx2
    have HP2 := Lib.hid hP2
    have Hmb2 := Lib.hid (show w.heap.size ≤ mb2 from by rw [← hmb2]; exact hb01.size)
    have HW2 := Lib.hid hW2
    clear hi hok hx2 hnn hfit hpl hlen hE hN2 hn2 hl2 hown htk h20 hh1 hP2 hb12 hW2 hmb2 kx1 kx2 hb2 hbw
    go_wp2_with fail
    refine hCl.out.mono ?_
    rintro e w9 ⟨rfl, rfl⟩
    rw [HW2.out]
    have o0' := Lib.hid (fun (W : World) (hW : Below W2.heap.size W2 W) => show W.cell? ⟨q, 0, none⟩ = some (.string nm) from (Hkx2.out.next hW).cell 0)
    clear o4 hCl o0 x1
    go_upto_region 5 with fail
    have hAfter := Lib.hid (fun (w3 w4 : World) (hd : Below W2.heap.size W2 w3) (pb g : Nat) (hPn : ∀ nm, PeerAt w4 w3.heap.size pb g (Peer.new nm)) (hb34 : Below w3.heap.size w3 w4) => show ∃ es' cl' kvs', (Instr.mapUpdate 69 (.map (some mb2)) (.string nm) (.pointer (some ⟨pb, 0, none⟩))).run Tryz.prog w4 = .ok () (setBlock w4 mb2 (.map es' cl')) ∧ Hid (PMap (setBlock w4 mb2 (.map es' cl')) base mb2 es' cl' kvs' (ls ++ [(pb, g)]) (h.ps ++ [Peer.new nm])) ∧ Hid (Below w.heap.size w (setBlock w4 mb2 (.map es' cl'))) ∧ Hid (CellsK W2 (setBlock w4 mb2 (.map es' cl'))) from by
      have hb24 := bnext hd hb34
      have hP4 := HP2.out.next hb24
      obtain ⟨es', cl', kvs', h1, h2, h3⟩ := upd_shape (w := w4) strKey Tryz.underlying69 hP4.mp hP4.shape (str_keyed nm hk20) (.pointer (some ⟨pb, 0, none⟩))
      have hge := (hPn nm).st.foot_ge
      refine ⟨es', cl', kvs', h1, Lib.hid (hP4.add (p := Peer.new nm) (g := g) (pb := pb) ((hPn nm).less (Nat.le_trans Hbase.out (Nat.le_trans hb02.out.size hd.size))) hno.out (fun q hq hf => ?_) (fun hq => ?_) h2 h3), Lib.hid (below_setBlockG (bnext hb02.out hb24) Hmb2.out _), Lib.hid ((CellsK.of hb24).trans (CellsK.setBlock hP4.mp))⟩
      · have h5 := (feet_next HP2.out.prs hb24 hf).lt HP2.out.prs
        have h6 := hge q hq
        have h7 := hd.size
        omega
      · have h6 := hge mb2 hq
        have h7 := hd.size
        omega)
    go_region_held_law (fun w' => w'.cell? ⟨q, 0, none⟩ = some (.string nm))
      (first | exact o0'.out _ (Below.refl _ _) | exact o0'.out _ (below_drewN (Below.refl _ _) 1) | exact x04 | exact x05)
      (first
        | (go_at_call 33
           refine (hFr.out (W2.drewN 1)).mono ?_
           rintro e w4 ⟨v, rfl, pb, g, rfl, hPn, hb34⟩
           have x04 := o0'.out w4 (bnext (below_drewN (Below.refl _ _) 1) hb34)
           obtain ⟨es', cl', kvs', hupd, hP5, hb5, hc5⟩ := hAfter.out (W2.drewN 1) w4 (below_drewN (Below.refl _ _) 1) pb g hPn hb34
           have x05 : (setBlock w4 mb2 (.map es' cl')).cell? ⟨q, 0, none⟩ = some (.string nm) := (hc5.out.blk Hkx2.out).cell 0))
    all_goals
      have hB := Lib.hid (hBec.out mb2 A2 n2 c2 NL2 Hl2.out HE.out HN2.out es' cl' kvs' (ls ++ [(pb, g)]) _ hb5.out (hc5.out.own hown2.out) (fun e he => (htk2.out e he).cells hc5.out) hP5.out)
      have ho5 := Lib.hid (OutH.of hb5.out Hbase.out)
      clear hPn hb34 x04 x05 hupd
      go_wp2_with fail
      refine hB.out.mono ?_
      rintro e w8 ⟨rfl, hM8, hO8⟩
      have hM8 := Lib.hid hM8
      have hO8 := Lib.hid (ho5.out.trans hO8)
      go_wp2_with fail
      go_ret
      exact R1.mk rfl ⟨hM8.out, hO8.out⟩
end Go.Proofs.YtihjgbhnlejhfaaGreatDoor
namespace Go.Proofs.YtihjgbhnlejhfaaGreatDoor
open Go.RowKit Go.ChangeMaps

/-- New's error -/
def newE (l : List Nod) (c w r : Int) : Int := if chkR l ≠ 0 then chkR l else if c < 1 ∨ (tokN l : Int) < c ∨ w < 1 ∨ c < w ∨ r < 1 ∨ c < r then 1 else 0
def newH (l : List Nod) (c w r : Int) : Hse := ⟨l, c.toNat, w.toNat, r.toNat, l.map fun x : Nod => Peer.new x.nm⟩
theorem newH_ok {l : List Nod} {c w r : Int} (h : newE l c w r = 0) : HseI [] (newH l c w r) ∧ (newH l c w r).read ≤ 20 ∧ (newH l c w r).write ≤ 20 ∧ 1 ≤ (newH l c w r).write ∧ 1 ≤ (newH l c w r).read ∧ ((newH l c w r).copies : Int) = c ∧ ((newH l c w r).write : Int) = w ∧ ((newH l c w r).read : Int) = r ∧ (newH l c w r).write ≤ (newH l c w r).copies ∧ (newH l c w r).read ≤ (newH l c w r).copies ∧ (newH l c w r).copies ≤ tokN l := by
  unfold newE at h
  by_cases h1 : chkR l ≠ 0
  · rw [if_pos h1] at h; exact absurd h h1
  rw [if_neg h1] at h
  by_cases h2 : c < 1 ∨ (tokN l : Int) < c ∨ w < 1 ∨ c < w ∨ r < 1 ∨ c < r
  · rw [if_pos h2] at h; cases h
  have hr := chkR_iff.1 (Decidable.not_not.1 h1)
  have h20 := hr.1
  have ht : tokN l ≤ l.length := List.length_filter_le _ _
  have hc20 : c.toNat ≤ 20 := by omega
  refine ⟨⟨hr, hc20, fun p hp => ?_, fun q hq => absurd hq (List.not_mem_nil), fun x hx => ?_, fun p hp => ?_, ?_⟩, ?_, ?_, ?_, ?_, ?_, ?_, ?_, ?_, ?_, ?_⟩
  · obtain ⟨x, _, rfl⟩ := List.mem_map.1 hp
    exact Subp.nil []
  · exact ⟨Peer.new x.nm, List.mem_map.2 ⟨x, hx, rfl⟩, rfl⟩
  · obtain ⟨x, hx, rfl⟩ := List.mem_map.1 hp
    exact ⟨x, hx, rfl⟩
  · show ((l.map fun x : Nod => Peer.new x.nm).map fun p : Peer => p.nm).Nodup
    rw [List.map_map]
    exact hr.2.2.imp fun h e => by rw [e] at h; exact nlt_irrefl _ h
  all_goals show _
  all_goals unfold newH
  all_goals simp only []
  all_goals omega
theorem HsAt.addP {w : World} {base hb mb : Nat} {A : Option Addr} {c : Nat} {L : List NodE} {es es' : Array MapEntry} {clock clock' : Nat} {kvs kvs' : List (Value × Value)} {ls ls' : List (Nat × Nat)} {h : Hse} {ps' : List Peer} (k : HsAt w base hb mb A c L es clock kvs ls h) (hP : PMap (setBlock w mb (.map es' clock')) base mb es' clock' kvs' ls' ps') : HsAt (setBlock w mb (.map es' clock')) base hb mb A c L es' clock' kvs' ls' { h with ps := ps' } :=
  ⟨(CellsK.setBlock k.peers.mp).blk k.obj, k.nodes, (CellsK.setBlock k.peers.mp).own k.row, fun e he => (k.tks e he).cells (CellsK.setBlock k.peers.mp), hP, k.oh⟩
/-- what New answers -/
def NewHP (l : List Nod) (c wr r : Int) (w : World) (v : Value) (w' : World) : Prop :=
  ((newE l c wr r ≠ 0 ∧ v = .tuple #[.pointer none, .int .i64 (newE l c wr r)]) ∨ (newE l c wr r = 0 ∧ ∃ hb, v = .tuple #[.pointer (some ⟨hb, 0, none⟩), .int .i64 0] ∧ HsM w' w.heap.size hb (newH l c wr r))) ∧ Below w.heap.size w w'
set_option maxRecDepth 1000000 in
set_option maxHeartbeats 8000000 in
theorem hnew_any (A : Option Addr) (n c : Nat) (L : List NodE) (hn : L.length = n) (hl : n ≤ maxLen) (C W R : Int) (w : World) (h : Has w w.heap.size A (nodCs L)) (hL : ∀ e ∈ L, NodOk w e) :
    Calls Tryz.prog 10 #[.slice A n c, .int .i64 C, .int .i64 W, .int .i64 R] w (RV (NewHP (L.map NodE.x) C W R w)) := by
  have HC := Lib.hid (rcheckN_any A n c L hn hl w h hL)
  obtain ⟨z, hz⟩ : ∃ z, chkR (L.map NodE.x) = z := ⟨_, rfl⟩
  rw [hz] at HC
  have hE : newE (L.map NodE.x) C W R = if z ≠ 0 then z else if C < 1 ∨ (tokN (L.map NodE.x) : Int) < C ∨ W < 1 ∨ C < W ∨ R < 1 ∨ C < R then 1 else 0 := by unfold newE; rw [hz]
  by_cases hz0 : z = 0
  · subst hz0
    have hok := chkR_iff.1 hz
    have hn20 : n ≤ 20 := by have := hok.1; rw [List.length_map, hn] at this; exact this
    rw [if_neg (by simp)] at hE
    have hT := Lib.hid (fun (w1 : World) (hb1 : Below w.heap.size w w1) => tokened_any A n c L hn (by omega) w1 (h.next hb1))
    have hO := Lib.hid (fun (w1 : World) (hb1 : Below w.heap.size w w1) => ownN_any A n c L hn (by omega) w1 (h.next hb1) (fun e he => (hL e he).next hb1) (fun e he => by
      have h1 := hok.2.1 e.x (List.mem_map.2 ⟨e, he, rfl⟩)
      have h2 : e.t.l.length ≤ 20 := h1.2.2.1
      omega))
    obtain ⟨tk, htk⟩ : ∃ tk, tokN (L.map NodE.x) = tk := ⟨_, rfl⟩
    rw [htk] at hE hT
    have htk20 : tk ≤ 20 := by
      rw [← htk]
      unfold tokN
      refine Nat.le_trans (List.length_filter_le _ _) ?_
      rw [List.length_map, hn]; exact hn20
    by_cases h1 : C < 1
    · have hB := Lib.hid (fun (w1 : World) (hb1 : Below w.heap.size w w1) => show NewHP (L.map NodE.x) C W R w (.tuple #[.pointer none, .int .i64 1]) w1 from by
        rw [if_pos (.inl h1)] at hE
        exact ⟨.inl ⟨by rw [hE]; decide, by rw [hE]⟩, hb1⟩)
      clear hz hok hE h hL htk hn hT hO
      go_enter Tryz.func10, Tryz.ntmps10
      go_wp2_with fail
      refine HC.out.mono ?_
      rintro e w1 ⟨rfl, hb1⟩
      have hb1 := Lib.hid hb1
      go_wp2_with fail
      go_ret2
      exact RV.mk (hB.out w1 hb1.out)
    by_cases h2 : (tk : Int) < C ∨ W < 1 ∨ C < W ∨ R < 1 ∨ C < R
    · have hB := Lib.hid (fun (w1 : World) (hb1 : Below w.heap.size w w1) => show NewHP (L.map NodE.x) C W R w (.tuple #[.pointer none, .int .i64 1]) w1 from by
        rw [if_pos (.inr h2)] at hE
        exact ⟨.inl ⟨by rw [hE]; decide, by rw [hE]⟩, hb1⟩)
      clear hz hok hE h hL htk hn hO
      go_enter Tryz.func10, Tryz.ntmps10
      go_wp2_with fail
      refine HC.out.mono ?_
      rintro e w1 ⟨rfl, hb1⟩
      have hT1 := Lib.hid (hT.out w1 hb1)
      have hb1 := Lib.hid hb1
      clear hT
      go_wp2_with fail
      refine hT1.out.mono ?_
      rintro e w2 ⟨rfl, hb2⟩
      have hb2 := Lib.hid hb2
      by_cases g1 : (tk : Int) < C
      · clear h2
        go_wp2_with fail
        go_ret2
        exact RV.mk (hB.out w2 (bnext hb1.out hb2.out))
      by_cases g2 : W < 1
      · clear h2
        go_wp2_with fail
        go_ret2
        exact RV.mk (hB.out w2 (bnext hb1.out hb2.out))
      by_cases g3 : C < W
      · clear h2
        go_wp2_with fail
        go_ret2
        exact RV.mk (hB.out w2 (bnext hb1.out hb2.out))
      by_cases g4 : R < 1
      · clear h2
        go_wp2_with fail
        go_ret2
        exact RV.mk (hB.out w2 (bnext hb1.out hb2.out))
      have g5 : C < R := by rcases h2 with e | e | e | e | e <;> omega
      clear h2
      go_wp2_with fail
      go_ret2
      exact RV.mk (hB.out w2 (bnext hb1.out hb2.out))
    have hE0 : newE (L.map NodE.x) C W R = 0 := by rw [hE, if_neg (by rintro (e | e); exact h1 e; exact h2 e)]
    have g1 : C ≤ (tk : Int) := by omega
    have g2 : 1 ≤ W := by omega
    have g3 : W ≤ C := by omega
    have g4 : 1 ≤ R := by omega
    have g5 : R ≤ C := by omega
    have g0 : 1 ≤ C := by omega
    have HE0 := Lib.hid hE0
    have Hok := Lib.hid hok
    have Hn := Lib.hid hn
    have Hh := Lib.hid h
    have hcs : ((newH (L.map NodE.x) C W R).copies : Int) = C ∧ ((newH (L.map NodE.x) C W R).write : Int) = W ∧ ((newH (L.map NodE.x) C W R).read : Int) = R := ⟨(newH_ok hE0).2.2.2.2.2.1, (newH_ok hE0).2.2.2.2.2.2.1, (newH_ok hE0).2.2.2.2.2.2.2.1⟩
    have Hcs := Lib.hid hcs
    clear hz hok hE h hL htk hn h2 h1 hE0 hcs
    go_enter Tryz.func10, Tryz.ntmps10
    go_wp2_with fail
    refine HC.out.mono ?_
    rintro e w1 ⟨rfl, hb1⟩
    have hT1 := Lib.hid (hT.out w1 hb1)
    have hb1 := Lib.hid hb1
    clear hT
    go_wp2_with fail
    refine hT1.out.mono ?_
    rintro e w2 ⟨rfl, hb2⟩
    have hb02 := bnext hb1.out hb2
    have hO2 := Lib.hid (hO.out w2 hb02)
    have hb02 := Lib.hid hb02
    clear hO hT1 hb2
    go_wp2_with fail
    refine hO2.out.mono ?_
    rintro e w5 ⟨v, rfl, A5, c5, L5, rfl, hx5, hown5, htk5, hb5⟩
    obtain ⟨W6, hW6⟩ : ∃ W6, w5.alloc (.map #[] 0) = W6 := ⟨_, rfl⟩
    obtain ⟨mb, hmb⟩ : ∃ mb, w5.heap.size = mb := ⟨_, rfl⟩
    have hmk : (Instr.makeMap 69 none).run Tryz.prog w5 = .ok (.map (some mb)) W6 := by rw [← hmb, ← hW6]; kernel_rfl
    have hb6 : Below w5.heap.size w5 W6 := by rw [← hW6]; exact one_allocB _ _
    have hm6 : W6.heap[mb]? = some (.map #[] 0) := by rw [← hW6, ← hmb]; exact heap_alloc_new _ _
    rw [Hn.out] at hown5 ⊢
    obtain ⟨W7, hW7⟩ : ∃ W7, W6.alloc (.cells #[.slice A5 n c5, .int .i64 C, .int .i64 W, .int .i64 R, .map (some mb)] 71) = W7 := ⟨_, rfl⟩
    obtain ⟨hb, hhb⟩ : ∃ hb, W6.heap.size = hb := ⟨_, rfl⟩
    have hb7 : Below W6.heap.size W6 W7 := by rw [← hW7]; exact one_allocB _ _
    have k7 : Blk W7 hb 71 #[.slice A5 n c5, .int .i64 C, .int .i64 W, .int .i64 R, .map (some mb)] := by rw [← hW7]; exact Blk.newD _ _ _ _ hhb
    have hb57 := bnext hb6 hb7
    have hs5 : w.heap.size ≤ w5.heap.size := (bnext hb02.out hb5).size
    have hl5 : L5.length = n := by
      have h1 := congrArg List.length hx5
      rw [List.length_map, List.length_map, Hn.out] at h1
      exact h1
    have hH7 := Lib.hid (show HsAt W7 w.heap.size hb mb A5 c5 L5 #[] 0 [] [] { newH (L.map NodE.x) C W R with ps := ((L.take 0).map NodE.x).map fun x : Nod => Peer.new x.nm } from {
      obj := by rw [hl5]; show Blk W7 hb _ #[.slice A5 n c5, .int .i64 (newH (L.map NodE.x) C W R).copies, .int .i64 (newH (L.map NodE.x) C W R).write, .int .i64 (newH (L.map NodE.x) C W R).read, .map (some mb)]; rw [Hcs.out.1, Hcs.out.2.1, Hcs.out.2.2]; exact k7
      nodes := hx5
      row := by rw [hl5]; exact own_next (own_less hown5 hb02.out.size) hb57
      tks := fun e he => ((htk5 e he).less hb02.out.size).next hb57
      peers := { mp := (hb7.block mb (Array.getElem?_eq_some_iff.1 hm6).1).trans hm6, shape := MpS.empty _ _ _, prs := .nil, apart := List.Pairwise.nil, mapart := fun l hl => absurd hl (List.not_mem_nil), om := by rw [← hmb]; exact hs5 }
      oh := by rw [← hhb]; exact Nat.le_trans hs5 hb6.size })
    have hb07 := Lib.hid (bnext (bnext hb02.out hb5) hb57)
    have HW7 := Lib.hid hW7
    have Hhb := Lib.hid hhb
    clear hx5 hown5 htk5 hb5 hb6 hm6 hb7 k7 hb57 hs5 hl5 hW6 hmb hO2 hW7 hhb
    go_upto_region 7 with fail
    (try rw [HW7.out]); (try rw [Hhb.out])
    go_wp2_with fail
    go_loopw [55] (fun i wr => ∃ (j : Nat) (es : Array MapEntry) (cl : Nat) (kvs : List (Value × Value)) (ls : List (Nat × Nat)), j ≤ n ∧ i = .int .i64 (j : Nat) ∧ Hid (HsAt wr w.heap.size hb mb A5 c5 L5 es cl kvs ls { newH (L.map NodE.x) C W R with ps := ((L.take j).map NodE.x).map fun x : Nod => Peer.new x.nm }) ∧ Hid (Below w.heap.size w wr)) (fun i _ => n + 5 - (intOf i).toNat)
    case atStart => exact ⟨0, #[], 0, [], [], by omega, rfl, hH7, hb07⟩
    case round =>
      obtain ⟨j, es, cl, kvs, ls, hj, rfl, hHj, hbr⟩ := hrel
      by_cases hlt : (j : Int) < (n : Int)
      · have hjl : j < L.length := by rw [Hn.out]; omega
        obtain ⟨ad, rfl, _, c0⟩ := (Hh.out.next hbr.out).at (nodCs_0 hjl)
        obtain ⟨ad', e', _, c1⟩ := (Hh.out.next hbr.out).at (nodCs_1 hjl)
        injection e' with e'
        subst e'
        have c1 := cell_off c1 (by decide)
        have htk := take_snoc hjl
        have hfit := Hok.out.2.1 (at_ L j).x (List.mem_map.2 ⟨_, at_mem hjl, rfl⟩)
        have hdis : ∀ q ∈ ((L.take j).map NodE.x).map (fun x : Nod => Peer.new x.nm), q.nm ≠ (at_ L j).nm := fun q hq e => by
          obtain ⟨y0, hy0, rfl⟩ := List.mem_map.1 hq
          obtain ⟨y, hy, rfl⟩ := List.mem_map.1 hy0
          clear hy0 hq
          obtain ⟨i, hi, ei⟩ := List.getElem_of_mem hy
          rw [List.length_take] at hi
          rw [List.getElem_take] at ei
          have h1 := List.pairwise_iff_getElem.1 Hok.out.2.2 i j (by simp; omega) (by simpa using hjl) (by omega)
          rw [List.getElem_map, List.getElem_map, List.getElem_map, List.getElem_map, ei, ← at_eq hjl] at h1
          have e : y.nm = (at_ L j).nm := e
          have h1 : nlt y.nm (at_ L j).nm := h1
          rw [e] at h1
          exact nlt_irrefl _ h1
        obtain ⟨x, hx⟩ : ∃ x, at_ L j = x := ⟨_, rfl⟩
        rw [hx] at c0 c1 hdis hfit htk
        obtain ⟨nm, hnm⟩ : ∃ nm, x.nm = nm := ⟨_, rfl⟩
        obtain ⟨p, hp⟩ : ∃ p, x.t.l.length = p := ⟨_, rfl⟩
        rw [hp] at c1
        rw [hnm] at c0 hdis
        have hk20 : nm.size ≤ maxLen := by have h1 : x.nm.size ≤ 20 := hfit.2.1; rw [hnm] at h1; unfold maxLen; omega
        have q0 : (0 : Int) ≤ (j : Int) := by omega
        have hnext : (((L.take j).map NodE.x).map fun x : Nod => Peer.new x.nm) ++ [Peer.new nm] = ((L.take (j + 1)).map NodE.x).map fun x : Nod => Peer.new x.nm := by
          rw [htk, List.map_append, List.map_append, ← hnm]; rfl
        obtain ⟨W8, hW8⟩ : ∃ W8, wr.alloc (.cells #[.string nm, .slice x.t.A p x.t.c] 36) = W8 := ⟨_, rfl⟩
        obtain ⟨q8, hq8⟩ : ∃ q8, wr.heap.size = q8 := ⟨_, rfl⟩
        have hb8 : Below wr.heap.size wr W8 := by rw [← hW8]; exact one_allocB _ _
        have k8 : Blk W8 q8 36 #[.string nm, .slice x.t.A p x.t.c] := by rw [← hW8]; exact Blk.newD _ _ _ _ hq8
        have x0 : W8.cell? ⟨q8, 0, none⟩ = some (.string nm) := k8.cell 0
        have hH8 := hHj.out.next hb8
        have o4 : W8.cell? ⟨hb, 4, none⟩ = some (.map (some mb)) := hH8.obj.cell 4
        have hS8 := Lib.hid (fun (V : World) (hV : Below W8.heap.size W8 V) => show V.cell? ⟨hb, 4, none⟩ = some (.map (some mb)) ∧ V.cell? ⟨q8, 0, none⟩ = some (.string nm) from ⟨(hH8.next hV).obj.cell 4, (k8.next hV).cell 0⟩)
        have hbw8 := Lib.hid (bnext hbr.out hb8)
        have hAfter := Lib.hid (fun (w3 w4 : World) (hd : Below W8.heap.size W8 w3) (pb g : Nat) (hPn : ∀ nm, PeerAt w4 w3.heap.size pb g (Peer.new nm)) (hb34 : Below w3.heap.size w3 w4) => show ∃ es' cl' kvs', (Instr.mapUpdate 69 (.map (some mb)) (.string nm) (.pointer (some ⟨pb, 0, none⟩))).run Tryz.prog w4 = .ok () (setBlock w4 mb (.map es' cl')) ∧ Hid (HsAt (setBlock w4 mb (.map es' cl')) w.heap.size hb mb A5 c5 L5 es' cl' kvs' (ls ++ [(pb, g)]) { newH (L.map NodE.x) C W R with ps := ((L.take (j + 1)).map NodE.x).map fun x : Nod => Peer.new x.nm }) ∧ Hid (Below w.heap.size w (setBlock w4 mb (.map es' cl'))) ∧ (setBlock w4 mb (.map es' cl')).cell? ⟨hb, 4, none⟩ = some (.map (some mb)) ∧ (setBlock w4 mb (.map es' cl')).cell? ⟨q8, 0, none⟩ = some (.string nm) from by
          have hb24 := bnext hd hb34
          have hP4 := hH8.peers.next hb24
          obtain ⟨es', cl', kvs', h1, h2, h3⟩ := upd_shape (w := w4) strKey Tryz.underlying69 hP4.mp hP4.shape (str_keyed nm hk20) (.pointer (some ⟨pb, 0, none⟩))
          have hge := (hPn nm).st.foot_ge
          have hP5 := hP4.add (p := Peer.new nm) (g := g) (pb := pb) ((hPn nm).less (Nat.le_trans hbw8.out.size hd.size)) hdis (fun q hq hf => by
            have h5 := (feet_next hH8.peers.prs hb24 hf).lt hH8.peers.prs
            have h6 := hge q hq
            have h7 := hd.size
            omega) (fun hq => by
            have h5 := (Array.getElem?_eq_some_iff.1 hH8.peers.mp).1
            have h6 := hge mb hq
            have h7 := hd.size
            omega) h2 h3
          have hH5 := (hH8.next hb24).addP hP5
          refine ⟨es', cl', kvs', h1, Lib.hid ?_, Lib.hid (below_setBlockG (bnext hbw8.out hb24) hH8.peers.om _), hH5.obj.cell 4, ((CellsK.setBlock hP4.mp).blk (k8.next hb24)).cell 0⟩
          rw [← hnext]
          exact hH5)
        have hFr := Lib.hid (fun (w' : World) => fresh_any w')
        clear hjl htk hfit hdis hx hp hnm hk20 hnext hb8 k8 hH8
        go_upto_region 10 with fail
        (try rw [hW8]); (try rw [hq8])
        clear hW8 hq8 c0 c1
        go_region_held_law (fun w' => w'.cell? ⟨hb, 4, none⟩ = some (.map (some mb)) ∧ w'.cell? ⟨q8, 0, none⟩ = some (.string nm))
          (first | exact hS8.out _ (Below.refl _ _) | exact hS8.out _ (below_drewN (Below.refl _ _) 1) | exact x04 | exact x05)
          (first
            | (go_at_call 33
               refine (hFr.out (W8.drewN 1)).mono ?_
               rintro e w4 ⟨v, rfl, pb, g, rfl, hPn, hb34⟩
               have x04 := hS8.out w4 (bnext (below_drewN (Below.refl _ _) 1) hb34)
               obtain ⟨es', cl', kvs', hupd, hH5, hb5, x05⟩ := hAfter.out (W8.drewN 1) w4 (below_drewN (Below.refl _ _) 1) pb g hPn hb34))
        all_goals
          clear hPn hb34 x04 x05 hupd
          go_wp2_with fail
          go_roundw
          case rel => exact ⟨j + 1, es', cl', kvs', ls ++ [(pb, g)], by omega, by go_num, hH5, hb5⟩
          case measure => simp [intOf]; omega
      · obtain rfl : n = j := by omega
        have hz := hHj.out
        rw [show L.take n = L by rw [← Hn.out, List.take_length]] at hz
        have hz := Lib.hid hz
        go_wp2_with fail
        go_ret2
        exact RV.mk ⟨.inr ⟨HE0.out, hb, rfl, ⟨_, _, _, _, _, _, _, _, hz.out⟩⟩, hbr.out⟩
  · have hB := Lib.hid (fun (w1 : World) (hb1 : Below w.heap.size w w1) => show NewHP (L.map NodE.x) C W R w (.tuple #[.pointer none, .int .i64 z]) w1 from by
      rw [if_pos hz0] at hE
      exact ⟨.inl ⟨by rw [hE]; exact hz0, by rw [hE]⟩, hb1⟩)
    have f1 : (z != 0) = true := by rw [bne_iff_ne]; exact hz0
    clear hz hE h hL hn hz0
    go_enter Tryz.func10, Tryz.ntmps10
    go_wp2_with fail
    refine HC.out.mono ?_
    rintro e w1 ⟨rfl, hb1⟩
    have hb1 := Lib.hid hb1
    go_wp2_with fail
    go_ret2
    exact RV.mk (hB.out w1 hb1.out)
set_option maxRecDepth 100000 in
theorem hnodes_any (base hb mb : Nat) (NA : Option Addr) (nc : Nat) (NL : List NodE) (es : Array MapEntry) (clock : Nat) (kvs : List (Value × Value)) (ls : List (Nat × Nat)) (h : Hse) (hr : RgOk h.nodes) (w : World) (hh : HsAt w base hb mb NA nc NL es clock kvs ls h) :
    Calls Tryz.prog 20 #[.pointer (some ⟨hb, 0, none⟩)] w (RV (OwnNP NL w)) := by
  have o0 : w.cell? ⟨hb, 0, none⟩ = some (.slice NA NL.length nc) := hh.obj.cell 0
  have hlen : NL.length ≤ 20 := by have h1 := hr.1; rw [← hh.nodes, List.length_map] at h1; exact h1
  have hO := Lib.hid (ownN_any NA NL.length nc NL rfl (by omega) w (Has.of_own hh.row) (fun e he => (hh.tks e he).ok) (fun e he => by
    have h1 := hr.2.1 e.x (by rw [← hh.nodes]; exact List.mem_map.2 ⟨e, he, rfl⟩)
    have h2 : e.t.l.length ≤ 20 := h1.2.2.1
    omega))
  clear hh hr hlen
  go_enter Tryz.func20, Tryz.ntmps20
  go_wp2_with fail
  refine hO.out.mono ?_
  rintro e w1 ⟨v, rfl, hP⟩
  have hP := Lib.hid hP
  go_wp2_with fail
  go_ret
  exact RV.mk hP.out
end Go.Proofs.YtihjgbhnlejhfaaGreatDoor
namespace Go.Proofs.YtihjgbhnlejhfaaGreatDoor
open Go.RowKit

theorem new_ndA : newE [ndA] 1 1 1 = 0 := by
  unfold newE
  rw [chk_ndA, if_neg (by simp)]
  have h1 : tokN [ndA] = 1 := rfl
  rw [h1, if_neg (by omega)]
set_option maxRecDepth 1000000 in
set_option maxHeartbeats 4000000 in
theorem houses_any (w : World) : Calls Tryz.prog 9 #[] w (R1 (.bool true) (Below w.heap.size w)) := by
  obtain ⟨W1, hW1⟩ : ∃ W1, w.alloc (.cells #[.int .u64 5] 66) = W1 := ⟨_, rfl⟩
  obtain ⟨W2, hW2⟩ : ∃ W2, W1.alloc (.cells #[.string ⟨#[97]⟩, .slice (some ⟨w.heap.size, 0, none⟩) 1 1] 36) = W2 := ⟨_, rfl⟩
  have hb1 : Below w.heap.size w W1 := by rw [← hW1]; exact one_alloc w _
  have hb2 : Below W1.heap.size W1 W2 := by rw [← hW2]; exact one_alloc W1 _
  have hs1 : w.heap.size + 1 = W1.heap.size := by rw [← hW1]; simp
  have ht : Has W1 W1.heap.size (some ⟨w.heap.size, 0, none⟩) (u64s [5]) := by rw [← hW1]; exact has_new w #[.int .u64 5] 66 rfl
  have hnd : Has W2 W2.heap.size (some ⟨w.heap.size + 1, 0, none⟩) (nodCs [⟨⟨#[97]⟩, ⟨some ⟨w.heap.size, 0, none⟩, 1, [5]⟩⟩]) := by rw [← hW2]; exact has_new W1 #[.string ⟨#[97]⟩, .slice (some ⟨w.heap.size, 0, none⟩) 1 1] 36 hs1
  have hok : ∀ e ∈ ([⟨⟨#[97]⟩, ⟨some ⟨w.heap.size, 0, none⟩, 1, [5]⟩⟩] : List NodE), NodOk W2 e := by
    intro e he
    obtain rfl := List.mem_singleton.1 he
    exact ⟨⟨(show 1 ≤ 1 by decide), (show 1 ≤ maxLen by decide), (fun h => by cases h), ht.next hb2⟩, (show 1 ≤ maxLen by decide), fun x hx => by obtain rfl := List.mem_singleton.1 hx; decide⟩
  have hN := Lib.hid (hnew_any (some ⟨w.heap.size + 1, 0, none⟩) 1 1 [⟨⟨#[97]⟩, ⟨some ⟨w.heap.size, 0, none⟩, 1, [5]⟩⟩] rfl (by decide) 1 1 1 W2 hnd hok)
  have hb12 := Lib.hid (bnext hb1 hb2)
  clear hnd hok ht hb1 hb2 hs1
  have HW2 := Lib.hid hW2; clear hW2
  have HW1 := Lib.hid hW1; clear hW1
  go_enter Tryz.func9, Tryz.ntmps9
  go_wp2_with fail
  rw [HW1.out, HW2.out]
  refine hN.out.mono ?_
  rintro e w3 ⟨v, rfl, hc, hb3⟩
  rcases hc with ⟨h1, _⟩ | ⟨hE, hb, rfl, hM⟩
  · exact absurd new_ndA h1
  · obtain ⟨mb, NA, nc, NL, es, clock, kvs, ls, hh⟩ := hM
    have hlen : NL.length = 1 := by
      have h1 := congrArg List.length hh.nodes
      rw [List.length_map] at h1
      exact h1
    have hNd := hnodes_any W2.heap.size hb mb NA nc NL es clock kvs ls _ (newH_ok hE).1.ring w3 hh
    have hNd := Lib.hid hNd
    have hlen := Lib.hid hlen
    have hb3 := Lib.hid hb3
    clear hE hh
    go_wp2_with fail
    refine hNd.out.mono ?_
    rintro e w4 ⟨v, rfl, A4, c4, L4, rfl, _, _, _, hb4⟩
    have hb4 := Lib.hid hb4
    rw [hlen.out]
    go_wp2_with fail
    go_ret
    exact R1.mk rfl (bnext (bnext hb12.out hb3.out) hb4.out)
end Go.Proofs.YtihjgbhnlejhfaaGreatDoor
namespace Go.Proofs.YtihjgbhnlejhfaaGreatDoor
open Go.Sort

/-- a step -/
structure Stp where
  kind : Int
  keep : Int
  L : List Lab
  x : Smp
  nm : ByteArray
  node : Nod
instance : Inhabited Stp := ⟨⟨0, 0, [], ⟨0, 0⟩, ⟨#[]⟩, ⟨⟨#[]⟩, []⟩⟩⟩
/-- a step done: the house behind it, its error -/
def doneH (h : Hse) (a : Stp) : Hse × Int :=
  if a.kind = 1 then ((putH h a.L a.x).1, (putH h a.L a.x).2.2) else
  if a.kind = 2 then (h, (getH h a.L).1) else
  if a.kind = 3 then mendH h a.L else
  if a.kind = 4 then (h.mark a.nm false, setN h a.nm) else
  if a.kind = 5 then (h.mark a.nm true, setN h a.nm) else
  if a.kind = 6 then (h, crashN h a.nm a.keep) else
  if a.kind = 7 then joinH h a.node else leaveH h a.nm
def isPut (a : Stp) : Prop := a.kind = 1 ∧ (encN a.L a.x).2 = 0
instance (a : Stp) : Decidable (isPut a) := by unfold isPut; exact inferInstance
/-- what was put -/
def putsOf (l : List Stp) : List Pt := l.flatMap fun a : Stp => if isPut a then [(a.L, a.x)] else []
theorem putsOf_snoc (l : List Stp) (a : Stp) : putsOf (l ++ [a]) = putsOf l ++ if isPut a then [(a.L, a.x)] else [] := by unfold putsOf; rw [List.flatMap_append]; simp
theorem putsOf_len (l : List Stp) : (putsOf l).length ≤ l.length := by
  induction l with
  | nil => exact Nat.le_refl _
  | cons a l ih =>
    show ((if isPut a then [(a.L, a.x)] else []) ++ putsOf l).length ≤ l.length + 1
    rw [List.length_append]
    split <;> simp <;> omega
def runH (h : Hse) (l : List Stp) : Hse := l.foldl (fun h a => (doneH h a).1) h
theorem runH_snoc (h : Hse) (l : List Stp) (a : Stp) : runH h (l ++ [a]) = (doneH (runH h l) a).1 := by unfold runH; rw [List.foldl_append]; rfl
theorem becomeH_same (h : Hse) (nodes : List Nod) (ps : List Peer) : (becomeH h nodes ps).1.copies = h.copies ∧ (becomeH h nodes ps).1.write = h.write ∧ (becomeH h nodes ps).1.read = h.read := by
  unfold becomeH
  split <;> exact ⟨rfl, rfl, rfl⟩
theorem doneH_same (h : Hse) (a : Stp) : (doneH h a).1.copies = h.copies ∧ (doneH h a).1.write = h.write ∧ (doneH h a).1.read = h.read := by
  unfold doneH
  split
  · unfold putH
    split <;> exact ⟨rfl, rfl, rfl⟩
  split
  · exact ⟨rfl, rfl, rfl⟩
  split
  · unfold mendH
    split
    · exact ⟨rfl, rfl, rfl⟩
    · cases getK h (txL a.L) <;> exact ⟨rfl, rfl, rfl⟩
  split
  · exact ⟨rfl, rfl, rfl⟩
  split
  · exact ⟨rfl, rfl, rfl⟩
  split
  · exact ⟨rfl, rfl, rfl⟩
  split
  · unfold joinH
    split
    · exact ⟨rfl, rfl, rfl⟩
    · exact becomeH_same _ _ _
  · unfold leaveH
    split
    · exact ⟨rfl, rfl, rfl⟩
    · split
      · exact ⟨rfl, rfl, rfl⟩
      · exact becomeH_same _ _ _
theorem runH_same (l : List Stp) (h : Hse) : (runH h l).copies = h.copies ∧ (runH h l).write = h.write ∧ (runH h l).read = h.read := by
  refine snocRec (motive := fun l => (runH h l).copies = h.copies ∧ (runH h l).write = h.write ∧ (runH h l).read = h.read) ⟨rfl, rfl, rfl⟩ (fun l a ih => ?_) l
  rw [runH_snoc]
  obtain ⟨h1, h2, h3⟩ := doneH_same (runH h l) a
  exact ⟨h1.trans ih.1, h2.trans ih.2.1, h3.trans ih.2.2⟩
theorem done_sub {puts : List Pt} {h : Hse} (k : HseI puts h) (hm : puts.length ≤ 22) {a : Stp} (hx : SmpIn a.x) : HseI (puts ++ if isPut a then [(a.L, a.x)] else []) (doneH h a).1 := by
  unfold doneH
  by_cases h1 : a.kind = 1
  · rw [if_pos h1]
    have h2 := putH_sub k a.L a.x hx
    by_cases he : (encN a.L a.x).2 = 0
    · rw [if_neg (by simpa using he)] at h2
      rw [if_pos ⟨h1, he⟩]
      exact h2
    · rw [if_pos he] at h2
      rw [if_neg (fun e => he e.2), List.append_nil]
      exact h2
  rw [if_neg h1, if_neg (fun e => h1 e.1), List.append_nil]
  split
  · exact k
  split
  · exact mendH_sub k hm a.L
  split
  · exact setUp_sub k _ _
  split
  · exact setUp_sub k _ _
  split
  · exact k
  split
  · exact joinH_sub k hm _
  · exact leaveH_sub k hm _
theorem run_sub {h : Hse} (k : HseI [] h) : ∀ (l : List Stp), l.length ≤ 22 → (∀ a ∈ l, SmpIn a.x) → HseI (putsOf l) (runH h l) := by
  intro l
  refine snocRec (motive := fun l => l.length ≤ 22 → (∀ a ∈ l, SmpIn a.x) → HseI (putsOf l) (runH h l)) (fun _ _ => k) (fun l a ih hl hx => ?_) l
  rw [List.length_append] at hl
  have hl2 : l.length ≤ 22 := by omega
  have h1 := ih hl2 fun b hb => hx b (by simp [hb])
  rw [runH_snoc, putsOf_snoc]
  exact done_sub h1 (Nat.le_trans (putsOf_len l) hl2) (hx a (by simp))
/-- how a put is acked -/
theorem put_acks2 (h : Hse) (hw : 1 ≤ h.write) (L : List Lab) (x : Smp) : (putH h L x).2.1 ≤ h.copies ∧ ((putH h L x).2.2 ≠ 0 → (putH h L x).2.2 ≠ 13 → (putH h L x).2.1 = 0) ∧ ((putH h L x).2.2 = 0 ↔ h.write ≤ (putH h L x).2.1) := by
  unfold putH
  by_cases he : (encN L x).2 ≠ 0
  · rw [if_pos he]
    refine ⟨Nat.zero_le _, fun _ _ => rfl, fun e => absurd e he, fun e => ?_⟩
    simp only [] at e
    omega
  · rw [if_neg he]
    have h1 := live_sub h.nodes h.copies h.ps (txL L)
    simp only []
    by_cases h2 : (liveK h.nodes h.copies h.ps (txL L)).length < h.write
    · rw [if_pos h2]
      exact ⟨h1, fun _ e => absurd rfl e, fun e => absurd e (by simp), fun e => absurd h2 (by omega)⟩
    · rw [if_neg h2]
      exact ⟨h1, fun e => absurd rfl e, fun _ => by omega, fun _ => rfl⟩
end Go.Proofs.YtihjgbhnlejhfaaGreatDoor
namespace Go.Proofs.YtihjgbhnlejhfaaGreatDoor
open Go.RowKit Go.ChangeMaps

set_option maxRecDepth 1000000 in
set_option maxHeartbeats 8000000 in
theorem hleave_any (base hb mb : Nat) (NA : Option Addr) (nc : Nat) (NL : List NodE) (es : Array MapEntry) (clock : Nat) (kvs : List (Value × Value)) (ls : List (Nat × Nat)) (puts : List Pt) (h : Hse) (hI : HseI puts h) (hm : puts.length ≤ 22) (hr20 : h.read ≤ 20) (hw20 : h.write ≤ 20)
    (nm : ByteArray) (hk : nm.size ≤ maxLen) (w : World) (hh : HsAt w base hb mb NA nc NL es clock kvs ls h) (hbase : base ≤ w.heap.size) (tS : SgAt w) (hsb : 0 < base) :
    Calls Tryz.prog 36 #[.pointer (some ⟨hb, 0, none⟩), .string nm] w (R1 (.int .i64 (leaveH h nm).2) (BecP base hb (leaveH h nm).1 w)) := by
  have o0 : w.cell? ⟨hb, 0, none⟩ = some (.slice NA NL.length nc) := hh.obj.cell 0
  have hrow1 := hh.row
  have hJ := Lib.hid (leave_any NA NL.length nc NL rfl (fun e => by subst e; exact (own_nil hrow1).2) (own_len hrow1).1 (Nat.le_trans (own_len hrow1).1 (own_len hrow1).2) nm w (Has.of_own hrow1) (fun e he => (hh.tks e he).ok))
  have hBec := Lib.hid (fun (mb2 : Nat) (A2 : Option Addr) (n2 c2 : Nat) (NL2 : List NodE) (hn2 : NL2.length = n2) (hE : leaveE h.nodes nm = 0) (hT : ¬ tokN (leaveNd h.nodes nm) < h.copies) (hN2 : NL2.map NodE.x = leaveNd h.nodes nm) (es2 : Array MapEntry) (clock2 : Nat) (kvs2 : List (Value × Value)) (ls2 : List (Nat × Nat)) (w1 : World) (hb1 : Below w.heap.size w w1) (hr1 : w1.ownsRow base 36 2 (.slice A2 n2 c2) n2 (nodCs NL2)) (ht1 : ∀ e ∈ NL2, TkOwn w1 base e) (hP1 : PMap w1 base mb2 es2 clock2 kvs2 ls2 (h.ps.filter fun p : Peer => decide (p.nm ≠ nm))) =>
    show Calls Tryz.prog 65 #[.pointer (some ⟨hb, 0, none⟩), .slice A2 n2 c2, .map (some mb2)] w1 (R1 (.int .i64 (leaveH h nm).2) (BecP base hb (leaveH h nm).1 w1)) from by
      have h1 := hbecome_any base hb mb NA nc NL es clock kvs ls puts h hI hm hr20 hw20 mb2 A2 n2 c2 NL2 hn2 es2 clock2 kvs2 ls2 (h.ps.filter fun p : Peer => decide (p.nm ≠ nm)) (by rw [hN2]; exact leave_house hI nm) w1 (hh.next hb1) (Nat.le_trans hbase hb1.size) hr1 ht1 hP1 (tS.next hb1) hsb
      have e : leaveH h nm = becomeH h (leaveNd h.nodes nm) (h.ps.filter fun p : Peer => decide (p.nm ≠ nm)) := by unfold leaveH; rw [if_neg (by simpa using hE), if_neg hT]
      rw [e, ← hN2]
      exact h1)
  have hNo := Lib.hid (fun (e : Int) (he : (e ≠ 0 ∧ e = leaveE h.nodes nm) ∨ (e = 1 ∧ leaveE h.nodes nm = 0 ∧ tokN (leaveNd h.nodes nm) < h.copies)) (w1 : World) (hb1 : Below w.heap.size w w1) => show (leaveH h nm).2 = e ∧ BecP base hb (leaveH h nm).1 w w1 from by
    have e3 : leaveH h nm = (h, e) := by
      unfold leaveH
      rcases he with ⟨h1, h2⟩ | ⟨h1, h2, h3⟩
      · rw [← h2, if_pos h1]
      · rw [h2, if_neg (by simp), if_pos h3, h1]
    rw [e3]
    exact ⟨rfl, ⟨_, _, _, _, _, _, _, _, hh.next hb1⟩, OutH.of hb1 hbase⟩)
  have HI := Lib.hid hI
  have Hh := Lib.hid hh
  have Hbase := Lib.hid hbase
  have Hnodes := Lib.hid hh.nodes
  have hc20 := hI.cop
  obtain ⟨res, hres⟩ : ∃ res, leaveH h nm = res := ⟨_, rfl⟩
  rw [hres] at hBec hNo ⊢
  clear hI hm hh hbase tS hrow1 hres
  go_enter Tryz.func36, Tryz.ntmps36
  go_wp2_with fail
  refine hJ.out.mono ?_
  rintro e w1 ⟨v, rfl, hc, hb1⟩
  rcases hc with ⟨e, he, hin, rfl, _, hE⟩ | ⟨i, A2, c2, NL2, hok, hil, hnm, hfst, rfl, hx2, hown, htk⟩
  · rw [Hnodes.out] at hE
    obtain ⟨g1, g2⟩ := hNo.out e (.inl ⟨he, hE⟩) w1 hb1
    have f1 : (e != 0) = true := by rw [bne_iff_ne]; exact he
    have g1 := Lib.hid g1
    have g2 := Lib.hid g2
    clear hE he hb1 o0
    go_wp2_with fail
    go_ret
    exact R1.mk (by rw [g1.out]; rfl) g2.out
  · have hN2 : NL2.map NodE.x = leaveNd h.nodes nm := by
      rw [hx2, Hnodes.out]
      have hil2 : i < h.nodes.length := by rw [← Hnodes.out, List.length_map]; exact hil
      refine erase_key (by rw [← Hnodes.out]; exact hok.2.2) hil2 ?_
      have h1 : (h.nodes[i]).nm = (at_ NL i).nm := by
        have h2 : (NL.map NodE.x)[i]? = some (at_ NL i).x := by rw [List.getElem?_map, List.getElem?_eq_getElem hil, at_eq hil]; rfl
        rw [Hnodes.out, List.getElem?_eq_getElem hil2] at h2
        injection h2 with h2
        rw [h2]
        rfl
      rw [h1, hnm]
    have hE : leaveE h.nodes nm = 0 := by
      unfold leaveE
      rw [if_neg (by rw [← Hnodes.out, chkR_iff.2 hok]; simp), if_pos]
      rw [List.any_eq_true]
      refine ⟨(at_ NL i).x, ?_, decide_eq_true hnm⟩
      rw [← Hnodes.out]
      exact List.mem_map.2 ⟨_, at_mem hil, rfl⟩
    obtain ⟨n2, hn2⟩ : ∃ n2, NL.length - 1 = n2 := ⟨_, rfl⟩
    have hl2 : NL2.length = n2 := by
      have h1 := congrArg List.length hx2
      rw [List.length_map, List.length_eraseIdx, if_pos (by rw [List.length_map]; exact hil), List.length_map] at h1
      omega
    have hn20 : n2 ≤ 1000 := by
      have h1 := hok.1
      rw [List.length_map] at h1
      omega
    rw [hn2] at hown ⊢
    have HTk := Lib.hid (fun (w' : World) (hb : Below w1.heap.size w1 w') => tokened_any A2 n2 c2 NL2 hl2 hn20 w' (Has.of_own (own_next hown hb)))
    have hT20 : tokN (NL2.map NodE.x) ≤ 1000 := by
      unfold tokN
      refine Nat.le_trans (List.length_filter_le _ _) ?_
      rw [List.length_map, hl2]
      exact hn20
    have HN2 := Lib.hid hN2
    rw [hN2] at HTk hT20
    obtain ⟨tk, htkn⟩ : ∃ tk, tokN (leaveNd h.nodes nm) = tk := ⟨_, rfl⟩
    rw [htkn] at HTk hT20
    have Htkn := Lib.hid htkn
    have HE := Lib.hid hE
    have Hl2 := Lib.hid hl2
    have hh1 := Hh.out.next hb1
    have o1 : w1.cell? ⟨hb, 1, none⟩ = some (.int .i64 h.copies) := hh1.obj.cell 1
    have o4 : w1.cell? ⟨hb, 4, none⟩ = some (.map (some mb)) := hh1.obj.cell 4
    have hS1 := Lib.hid (fun (W : World) (hW : Below w1.heap.size w1 W) => show W.cell? ⟨hb, 1, none⟩ = some (.int .i64 h.copies) from (hh1.next hW).obj.cell 1)
    have hT1 := Lib.hid (HTk.out (w1.drewN 1) (below_drewN (Below.refl _ _) 1))
    have Hown := Lib.hid (own_less hown Hbase.out)
    have Htk := Lib.hid (fun e he => (htk e he).less Hbase.out)
    have Hh1 := Lib.hid hh1
    have Hb1 := Lib.hid hb1
    have hc3 : (h.copies : Int) ≤ 20 := by omega
    clear hok hil hnm hfst hx2 hown htk hE hN2 hn2 hl2 htkn HTk hh1 hb1 o0
    by_cases hfw : (tk : Int) < (h.copies : Int)
    · obtain ⟨g1, g2⟩ : res.2 = 1 ∧ ∀ w2, Below w1.heap.size w1 w2 → BecP base hb res.1 w w2 := ⟨(hNo.out 1 (.inr ⟨rfl, HE.out, by rw [Htkn.out]; omega⟩) w1 Hb1.out).1, fun w2 hb2 => (hNo.out 1 (.inr ⟨rfl, HE.out, by rw [Htkn.out]; omega⟩) w2 (bnext Hb1.out hb2)).2⟩
      have g1 := Lib.hid g1
      have g2 := Lib.hid g2
      go_upto_region 4 with fail
      go_region_held_law (fun w' => w'.cell? ⟨hb, 1, none⟩ = some (.int .i64 h.copies))
        (first | exact hS1.out _ (Below.refl _ _) | exact hS1.out _ (below_drewN (Below.refl _ _) 1) | exact hS1.out _ hb2w)
        (first
          | (go_at_call 31
             refine hT1.out.mono ?_
             rintro e w3 ⟨rfl, hb3⟩
             have hb2w : Below w1.heap.size w1 w3 := bnext (below_drewN (Below.refl _ _) 1) hb3))
      all_goals
        have hb2w := Lib.hid hb2w
        go_wp2_with fail
        go_ret
        exact R1.mk (by rw [g1.out]; rfl) (g2.out _ hb2w.out)
    · have hTk := Lib.hid (show ¬ tokN (leaveNd h.nodes nm) < h.copies from by rw [Htkn.out]; omega)
      go_upto_region 4 with fail
      go_region_held_law (fun w' => w'.cell? ⟨hb, 1, none⟩ = some (.int .i64 h.copies))
        (first | exact hS1.out _ (Below.refl _ _) | exact hS1.out _ (below_drewN (Below.refl _ _) 1) | exact hS1.out _ hb2w)
        (first
          | (go_at_call 31
             refine hT1.out.mono ?_
             rintro e w3 ⟨rfl, hb3⟩
             have hb2w : Below w1.heap.size w1 w3 := bnext (below_drewN (Below.refl _ _) 1) hb3))
      all_goals
        have hh3 := Hh1.out.next hb2w
        have o4 : w3.cell? ⟨hb, 4, none⟩ = some (.map (some mb)) := hh3.obj.cell 4
        have hCl := Lib.hid (cloneP_any mb es clock w3 hh3.peers.mp)
        have hbw : base ≤ w3.heap.size := Nat.le_trans Hbase.out (Nat.le_trans Hb1.out.size hb2w.size)
        obtain ⟨W2, hW2⟩ : ∃ W2, w3.alloc (.map es clock) = W2 := ⟨_, rfl⟩
        obtain ⟨mb2, hmb2⟩ : ∃ mb2, w3.heap.size = mb2 := ⟨_, rfl⟩
        have hP2 := hh3.peers.clone hbw
        have hb12 : Below w3.heap.size w3 W2 := by rw [← hW2]; exact one_allocB _ _
        rw [hW2, hmb2] at hP2
        rw [hmb2] at hCl
        obtain ⟨es', kvs', hdel, hs', hd'⟩ := del_shape (w := W2) strKey Tryz.underlying69 hP2.mp hP2.shape (str_keyed nm hk)
        obtain ⟨ls2, hP3⟩ := hP2.del HI.out.names hs' hd'
        have hb02 := bnext Hb1.out (bnext hb2w hb12)
        have hb03 := Lib.hid (below_setBlockG (b := mb2) hb02 (by rw [← hmb2]; exact Nat.le_trans Hb1.out.size hb2w.size) (.map es' clock))
        have hc3 := (CellsK.of (bnext hb2w hb12)).trans (CellsK.setBlock hP2.mp (o := .map es' clock))
        have hB := Lib.hid (hBec.out mb2 A2 n2 c2 NL2 Hl2.out HE.out hTk.out HN2.out es' clock kvs' ls2 _ hb03.out (hc3.own Hown.out) (fun e he => (Htk.out e he).cells hc3) hP3)
        have ho5 := Lib.hid (OutH.of hb03.out Hbase.out)
        have HW2 := Lib.hid hW2
        obtain ⟨W3, hW3⟩ : ∃ W3, setBlock W2 mb2 (.map es' clock) = W3 := ⟨_, rfl⟩
        rw [hW3] at hdel hB ho5 hb03
        have hdel := hdel 0
        clear hh3 hbw hP2 hb12 hW2 hmb2 hs' hd' hP3 hb02 hc3 hW3 hb2w
        go_wp2_with fail
        refine hCl.out.mono ?_
        rintro e w9 ⟨rfl, rfl⟩
        rw [HW2.out]
        clear o4 hCl
        go_wp2_with fail
        refine hB.out.mono ?_
        rintro e w8 ⟨rfl, hM8, hO8⟩
        have hM8 := Lib.hid hM8
        have hO8 := Lib.hid (ho5.out.trans hO8)
        go_wp2_with fail
        go_ret
        exact R1.mk rfl ⟨hM8.out, hO8.out⟩
end Go.Proofs.YtihjgbhnlejhfaaGreatDoor
namespace Go.Proofs.YtihjgbhnlejhfaaGreatDoor
open Go.RowKit Go.ChangeMaps

/-- a step that comes in: its labels' row, its node's row -/
structure StpE where
  kind : Int
  keep : Int
  t : LbsE
  x : Smp
  nm : ByteArray
  node : NodE
instance : Inhabited StpE := ⟨⟨0, 0, default, default, ⟨#[]⟩, default⟩⟩
def StpE.s (e : StpE) : Stp := ⟨e.kind, e.keep, e.t.l, e.x, e.nm, e.node.x⟩
def stpC (e : StpE) : List Value := [.int .i64 e.kind, .int .i64 e.keep, .slice e.t.A e.t.l.length e.t.c, .int .i64 e.x.t, .int .i64 e.x.v, .string e.nm, .string e.node.nm, .slice e.node.t.A e.node.t.l.length e.node.t.c]
def stpCs (l : List StpE) : List Value := l.flatMap stpC
/-- a step that lies before a place -/
structure StpIn (B : Nat) (w : World) (e : StpE) : Prop where
  kind : in64 e.kind
  keep : in64 e.keep
  labs : ∀ l ∈ e.t.l, LabOk l
  lc : e.t.l.length ≤ e.t.c
  cm : e.t.c ≤ maxLen
  nil : e.t.A = none → e.t.c = 0
  row : Has w B e.t.A (labCs e.t.l)
  x : SmpIn e.x
  nm : e.nm.size ≤ maxLen
  nnm : e.node.nm.size ≤ maxLen
  nlc : e.node.t.l.length ≤ e.node.t.c
  ncm : e.node.t.c ≤ maxLen
  nnil : e.node.t.A = none → e.node.t.c = 0
  nrow : Has w B e.node.t.A (u64s e.node.t.l)
  toks : ∀ x ∈ e.node.t.l, x < 18446744073709551616
theorem StpIn.next {B : Nat} {w w' : World} {e : StpE} (h : StpIn B w e) (hb : Below B w w') : StpIn B w' e :=
  { h with row := h.row.keep fun _ ha => hb.cell ha, nrow := h.nrow.keep fun _ ha => hb.cell ha }
theorem StpIn.node {B : Nat} {w : World} {e : StpE} (h : StpIn B w e) (hb : B ≤ w.heap.size) : NodOk w e.node := ⟨⟨h.nlc, h.ncm, h.nnil, h.nrow.more hb⟩, h.nnm, h.toks⟩
/-- a house and what was put -/
structure HsS (w : World) (base hb : Nat) (puts : List Pt) (h : Hse) : Prop where
  mem : HsM w base hb h
  inv : HseI puts h
  rd : h.read ≤ 20
  wr : h.write ≤ 20
set_option maxRecDepth 1000000 in
set_option maxHeartbeats 8000000 in
theorem done_any (base hb : Nat) (puts : List Pt) (h : Hse) (hm : puts.length ≤ 21) (e : StpE) (n p : Nat) (hn : e.t.l.length = n) (hp : e.node.t.l.length = p) (w : World) (hH : HsS w base hb puts h) (hbase : base ≤ w.heap.size) (he : StpIn base w e) (tS : SgAt w) (hsb : 0 < base) :
    Calls Tryz.prog 11 #[.pointer (some ⟨hb, 0, none⟩), .agg #[.int .i64 e.kind, .int .i64 e.keep, .slice e.t.A n e.t.c, .int .i64 e.x.t, .int .i64 e.x.v, .string e.nm, .string e.node.nm, .slice e.node.t.A p e.node.t.c]] w (R1 (.int .i64 (doneH h e.s).2) (BecP base hb (doneH h e.s).1 w)) := by
  obtain ⟨hM, hI, hr20, hw20⟩ := hH
  obtain ⟨W0, hW0⟩ : ∃ W0, w.alloc (.cells #[.int .i64 e.kind, .int .i64 e.keep, .slice e.t.A n e.t.c, .int .i64 e.x.t, .int .i64 e.x.v, .string e.nm, .string e.node.nm, .slice e.node.t.A p e.node.t.c] 38) = W0 := ⟨_, rfl⟩
  obtain ⟨q, hq⟩ : ∃ q, w.heap.size = q := ⟨_, rfl⟩
  have hb0 : Below w.heap.size w W0 := by rw [← hW0]; exact one_allocB _ _
  have kx : Blk W0 q 38 #[.int .i64 e.kind, .int .i64 e.keep, .slice e.t.A n e.t.c, .int .i64 e.x.t, .int .i64 e.x.v, .string e.nm, .string e.node.nm, .slice e.node.t.A p e.node.t.c] := by rw [← hW0]; exact Blk.newD _ _ _ _ hq
  have c0 : W0.cell? ⟨q, 0, none⟩ = some (.int .i64 e.kind) := kx.cell 0
  have c1 : W0.cell? ⟨q, 1, none⟩ = some (.int .i64 e.keep) := kx.cell 1
  have c2 : W0.cell? ⟨q, 2, none⟩ = some (.slice e.t.A n e.t.c) := kx.cell 2
  have c3 : W0.cell? ⟨q, 3, none⟩ = some (.int .i64 e.x.t) := kx.cell 3
  have c4 : W0.cell? ⟨q, 4, none⟩ = some (.int .i64 e.x.v) := kx.cell 4
  have c5 : W0.cell? ⟨q, 5, none⟩ = some (.string e.nm) := kx.cell 5
  have c6 : W0.cell? ⟨q, 6, none⟩ = some (.string e.node.nm) := kx.cell 6
  have c7 : W0.cell? ⟨q, 7, none⟩ = some (.slice e.node.t.A p e.node.t.c) := kx.cell 7
  have hM0 := hM.next hb0
  have he0 := he.next (show Below base w W0 from hb0.mono hbase)
  have hbase0 : base ≤ W0.heap.size := Nat.le_trans hbase hb0.size
  have tS0 := tS.next hb0
  have hO0 := OutH.of hb0 hbase
  have hln : n ≤ maxLen := by rw [← hn]; exact Nat.le_trans he.lc he.cm
  have hnil : e.t.A = none → n = 0 ∧ e.t.c = 0 := fun e1 => by have h1 := he.nil e1; have h2 := he.lc; omega
  have hdone : doneH h e.s = if e.kind = 1 then ((putH h e.t.l e.x).1, (putH h e.t.l e.x).2.2) else
    if e.kind = 2 then (h, (getH h e.t.l).1) else
    if e.kind = 3 then mendH h e.t.l else
    if e.kind = 4 then (h.mark e.nm false, setN h e.nm) else
    if e.kind = 5 then (h.mark e.nm true, setN h e.nm) else
    if e.kind = 6 then (h, crashN h e.nm e.keep) else
    if e.kind = 7 then joinH h e.node.x else leaveH h e.nm := rfl
  obtain ⟨res, hres⟩ : ∃ res, doneH h e.s = res := ⟨_, rfl⟩
  rw [hres] at hdone ⊢
  have HW0 := Lib.hid hW0
  have Hq := Lib.hid hq
  have HO0 := Lib.hid hO0
  have finish : ∀ (w' : World) (h' : Hse), HsM w' base hb h' → OutH base W0 w' → res.1 = h' → BecP base hb res.1 w w' := fun _ _ k1 k2 k3 => ⟨by rw [k3]; exact k1, hO0.trans k2⟩
  have finish := Lib.hid finish
  by_cases k1 : e.kind = 1
  · have hC := hput_any base hb puts.length h hI.hse hm hw20 e.t.A n e.t.c e.t.l hn hln hnil e.x he.x he.labs W0 hM0 hbase0 he0.row tS0 hsb
    rw [if_pos k1] at hdone
    have g1 := Lib.hid (congrArg Prod.fst hdone)
    have g2 := Lib.hid (congrArg Prod.snd hdone)
    have hC := Lib.hid hC
    rw [k1] at c0 HW0 ⊢
    clear hM hI hres hdone hW0 hq kx hM0 he0 tS0 hO0 he tS hbase hbase0 hb0 hn hp hnil c1 c5 c6 c7
    go_enter Tryz.func11, Tryz.ntmps11
    go_upto_region 1 with fail
    rw [HW0.out, Hq.out]
    go_wp2_with fail
    refine hC.out.mono ?_
    rintro e9 w1 ⟨rfl, hM1, hO1⟩
    have hF := Lib.hid (finish.out _ _ hM1 hO1 g1.out)
    clear hM1 hO1
    go_wp2_with fail
    go_ret
    exact R1.mk (by rw [g2.out]; first | done | rfl) hF.out
  have f1 : (e.kind == 1) = false := by simpa using k1
  rw [if_neg k1] at hdone
  obtain ⟨mb, NA, nc, NL, es, clock, kvs, ls, hh0⟩ := hM0
  have hm22 : puts.length ≤ 22 := by omega
  by_cases k2 : e.kind = 2
  · have hC := hGet_any base hb mb NA nc NL es clock kvs ls puts h hI hm22 hr20 e.t.A n e.t.c e.t.l hn hln he.labs W0 (he0.row.more hbase0) hh0 tS0
    rw [if_pos k2] at hdone
    have g1 := Lib.hid (congrArg Prod.fst hdone)
    have g2 := Lib.hid (congrArg Prod.snd hdone)
    have hC := Lib.hid hC
    have Hh0 := Lib.hid hh0
    have Hbase0 := Lib.hid hbase0
    rw [k2] at c0 HW0 ⊢
    clear hM hI hres hdone hW0 hq kx hh0 he0 tS0 hO0 he tS hbase hbase0 hb0 hn hp hnil c1 c3 c4 c5 c6 c7 f1 k1
    go_enter Tryz.func11, Tryz.ntmps11
    go_upto_region 1 with fail
    rw [HW0.out, Hq.out]
    go_wp2_with fail
    refine hC.out.mono ?_
    rintro e9 w1 ⟨v, rfl, A1, n1, d1, rfl, hl1, ho1, hb1⟩
    have hF := Lib.hid (finish.out _ _ ⟨_, _, _, _, _, _, _, _, Hh0.out.next hb1⟩ (OutH.of hb1 Hbase0.out) g1.out)
    clear hl1 ho1 hb1
    go_wp2_with fail
    go_ret
    exact R1.mk (by rw [g2.out]; first | done | rfl) hF.out
  have f2 : (e.kind == 2) = false := by simpa using k2
  rw [if_neg k2] at hdone
  by_cases k3 : e.kind = 3
  · have hC := hmend_any base hb mb NA nc NL es clock kvs ls puts h hI hm22 hr20 e.t.A n e.t.c e.t.l hn hln hnil he.labs W0 hh0 hbase0 he0.row tS0 hsb
    rw [if_pos k3] at hdone
    have g1 := Lib.hid (congrArg Prod.fst hdone)
    have g2 := Lib.hid (congrArg Prod.snd hdone)
    have hC := Lib.hid hC
    rw [k3] at c0 HW0 ⊢
    clear hM hI hres hdone hW0 hq kx hh0 he0 tS0 hO0 he tS hbase hbase0 hb0 hn hp hnil c1 c3 c4 c5 c6 c7 f1 k1 f2 k2
    go_enter Tryz.func11, Tryz.ntmps11
    go_upto_region 1 with fail
    rw [HW0.out, Hq.out]
    go_wp2_with fail
    refine hC.out.mono ?_
    rintro e9 w1 ⟨rfl, hM1, hO1, _⟩
    have hF := Lib.hid (finish.out _ _ ⟨_, _, _, _, _, _, _, _, hM1⟩ hO1 g1.out)
    clear hM1 hO1
    go_wp2_with fail
    go_ret
    exact R1.mk (by rw [g2.out]; first | done | rfl) hF.out
  have f3 : (e.kind == 3) = false := by simpa using k3
  rw [if_neg k3] at hdone
  by_cases k4 : e.kind = 4
  · have hC := hdown_any base hb h e.nm he.nm W0 ⟨_, _, _, _, _, _, _, _, hh0⟩
    rw [if_pos k4] at hdone
    have g1 := Lib.hid (congrArg Prod.fst hdone)
    have g2 := Lib.hid (congrArg Prod.snd hdone)
    have hC := Lib.hid hC
    rw [k4] at c0 HW0 ⊢
    clear hM hI hres hdone hW0 hq kx hh0 he0 tS0 hO0 he tS hbase hbase0 hb0 hn hp hnil c1 c2 c3 c4 c6 c7 f1 k1 f2 k2 f3 k3
    go_enter Tryz.func11, Tryz.ntmps11
    go_upto_region 1 with fail
    rw [HW0.out, Hq.out]
    go_wp2_with fail
    refine hC.out.mono ?_
    rintro e9 w1 ⟨rfl, hM1, hO1⟩
    have hF := Lib.hid (finish.out _ _ hM1 hO1 g1.out)
    clear hM1 hO1
    go_wp2_with fail
    go_ret
    exact R1.mk (by rw [g2.out]; first | done | rfl) hF.out
  have f4 : (e.kind == 4) = false := by simpa using k4
  rw [if_neg k4] at hdone
  by_cases k5 : e.kind = 5
  · have hC := hup_any base hb h e.nm he.nm W0 ⟨_, _, _, _, _, _, _, _, hh0⟩
    rw [if_pos k5] at hdone
    have g1 := Lib.hid (congrArg Prod.fst hdone)
    have g2 := Lib.hid (congrArg Prod.snd hdone)
    have hC := Lib.hid hC
    rw [k5] at c0 HW0 ⊢
    clear hM hI hres hdone hW0 hq kx hh0 he0 tS0 hO0 he tS hbase hbase0 hb0 hn hp hnil c1 c2 c3 c4 c6 c7 f1 k1 f2 k2 f3 k3 f4 k4
    go_enter Tryz.func11, Tryz.ntmps11
    go_upto_region 1 with fail
    rw [HW0.out, Hq.out]
    go_wp2_with fail
    refine hC.out.mono ?_
    rintro e9 w1 ⟨rfl, hM1, hO1⟩
    have hF := Lib.hid (finish.out _ _ hM1 hO1 g1.out)
    clear hM1 hO1
    go_wp2_with fail
    go_ret
    exact R1.mk (by rw [g2.out]; first | done | rfl) hF.out
  have f5 : (e.kind == 5) = false := by simpa using k5
  rw [if_neg k5] at hdone
  by_cases k6 : e.kind = 6
  · have hC := hcrash_any base hb h e.nm he.nm e.keep he.keep (fun p hp => hI.peer hm22 hp) W0 ⟨_, _, _, _, _, _, _, _, hh0⟩ hbase0 tS0 hsb
    rw [if_pos k6] at hdone
    have g1 := Lib.hid (congrArg Prod.fst hdone)
    have g2 := Lib.hid (congrArg Prod.snd hdone)
    have hC := Lib.hid hC
    rw [k6] at c0 HW0 ⊢
    clear hM hI hres hdone hW0 hq kx hh0 he0 tS0 hO0 he tS hbase hbase0 hb0 hn hp hnil c2 c3 c4 c6 c7 f1 k1 f2 k2 f3 k3 f4 k4 f5 k5
    go_enter Tryz.func11, Tryz.ntmps11
    go_upto_region 1 with fail
    rw [HW0.out, Hq.out]
    go_wp2_with fail
    refine hC.out.mono ?_
    rintro e9 w1 ⟨rfl, hM1, hO1⟩
    have hF := Lib.hid (finish.out _ _ hM1 hO1 g1.out)
    clear hM1 hO1
    go_wp2_with fail
    go_ret
    exact R1.mk (by rw [g2.out]; first | done | rfl) hF.out
  have f6 : (e.kind == 6) = false := by simpa using k6
  rw [if_neg k6] at hdone
  by_cases k7 : e.kind = 7
  · have hC := hjoin_any base hb mb NA nc NL es clock kvs ls puts h hI hm22 hr20 hw20 e.node.nm e.node.t.A e.node.t.c e.node.t.l p hp W0 (he0.node hbase0) hh0 hbase0 tS0 hsb
    rw [if_pos k7] at hdone
    have g1 := Lib.hid (congrArg Prod.fst hdone)
    have g2 := Lib.hid (congrArg Prod.snd hdone)
    have hC := Lib.hid hC
    rw [k7] at c0 HW0 ⊢
    clear hM hI hres hdone hW0 hq kx hh0 he0 tS0 hO0 he tS hbase hbase0 hb0 hn hp hnil c1 c2 c3 c4 c5 f1 k1 f2 k2 f3 k3 f4 k4 f5 k5 f6 k6
    go_enter Tryz.func11, Tryz.ntmps11
    go_upto_region 1 with fail
    rw [HW0.out, Hq.out]
    go_wp2_with fail
    refine hC.out.mono ?_
    rintro e9 w1 ⟨rfl, hM1, hO1⟩
    have hF := Lib.hid (finish.out _ _ hM1 hO1 g1.out)
    clear hM1 hO1
    go_wp2_with fail
    go_ret
    exact R1.mk (by rw [g2.out]; first | done | rfl) hF.out
  have f7 : (e.kind == 7) = false := by simpa using k7
  rw [if_neg k7] at hdone
  have hC := hleave_any base hb mb NA nc NL es clock kvs ls puts h hI hm22 hr20 hw20 e.nm he.nm W0 hh0 hbase0 tS0 hsb
  have g1 := Lib.hid (congrArg Prod.fst hdone)
  have g2 := Lib.hid (congrArg Prod.snd hdone)
  have hC := Lib.hid hC
  obtain ⟨kd, hkd⟩ : ∃ kd, e.kind = kd := ⟨_, rfl⟩
  rw [hkd] at c0 HW0 f1 f2 f3 f4 f5 f6 f7 ⊢
  clear hM hI hres hdone hW0 hq kx hh0 he0 tS0 hO0 he tS hbase hbase0 hb0 hn hp hnil c1 c2 c3 c4 c6 c7 k1 k2 k3 k4 k5 k6 k7 hkd
  go_enter Tryz.func11, Tryz.ntmps11
  go_upto_region 1 with fail
  rw [HW0.out, Hq.out]
  go_wp2_with fail
  refine hC.out.mono ?_
  rintro e9 w1 ⟨rfl, hM1, hO1⟩
  have hF := Lib.hid (finish.out _ _ hM1 hO1 g1.out)
  clear hM1 hO1
  go_wp2_with fail
  go_ret
  exact R1.mk (by rw [g2.out]; first | done | rfl) hF.out
end Go.Proofs.YtihjgbhnlejhfaaGreatDoor
namespace Go.Proofs.YtihjgbhnlejhfaaGreatDoor
open Go.RowKit Go.ChangeShapes Go.WideShapes Go.Deep

def StpE.good (w : World) (e : StpE) : Prop := in64 e.kind ∧ in64 e.keep ∧ LbsE.ok w e.t ∧ e.x.ok ∧ e.nm.size ≤ maxLen ∧ NodOk w e.node
theorem StpE.good.inn {w : World} {e : StpE} (h : e.good w) : StpIn w.heap.size w e := by
  obtain ⟨h1, h2, h3, h4, h5, h6⟩ := h
  exact { kind := h1, keep := h2, labs := h3.1, lc := h3.2.1, cm := h3.2.2.1, nil := h3.2.2.2.1, row := h3.2.2.2.2, x := h4, nm := h5, nnm := h6.2.1, nlc := h6.1.1, ncm := h6.1.2.1, nnil := h6.1.2.2.1, nrow := h6.1.2.2.2, toks := h6.2.2 }
theorem StpIn.more {B B' : Nat} {w : World} {e : StpE} (h : StpIn B w e) (hb : B ≤ B') : StpIn B' w e := { h with row := h.row.more hb, nrow := h.nrow.more hb }
section
variable {H : Type} {enc : TypeId × Value → H} {P : Program} {w : World} {base : Nat} {spare : Nat → Bool} {held : Bool}
theorem list8T {α : Type} {l : List α} (h : l.length = 8) : ∃ a b c d e f g i, l = [a, b, c, d, e, f, g, i] := by
  match l, h with
  | [a, b, c, d, e, f, g, i], _ => exact ⟨a, b, c, d, e, f, g, i, rfl⟩
theorem elem_step {t lb eu : TypeId} {f0 f1 f2 f3 f4 f5 g0 g1 h0 h1 n0 n1 : Field} (hs : P.underlying t = some (.struct #[f0, f1, f2, f3, f4, f5])) (k0 : P.underlying f0.type = some (.int .i64)) (k1 : P.underlying f1.type = some (.int .i64)) (hl : P.underlying f2.type = some (.slice lb)) (hx : P.underlying f3.type = some (.struct #[g0, g1])) (k4 : P.underlying f4.type = some .string) (hn : P.underlying f5.type = some (.struct #[n0, n1]))
    (i0 : P.underlying g0.type = some (.int .i64)) (i1 : P.underlying g1.type = some (.int .i64)) (hlb : P.underlying lb = some (.struct #[h0, h1])) (j0 : P.underlying h0.type = some .string) (j1 : P.underlying h1.type = some .string) (m0 : P.underlying n0.type = some .string) (m1 : P.underlying n1.type = some (.slice eu)) (hu : P.underlying eu = some (.int .u64))
    (hone : oneCellFields P #[h0, h1] = true) (hone2 : oneCellFields P #[g0, g1] = true)
    (o : (f0.offset, f1.offset, f2.offset, f3.offset, f4.offset, f5.offset, n0.offset, n1.offset) = (0, 1, 2, 3, 5, 6, 0, 1)) (c : (P.cellsOf f0.type, P.cellsOf f1.type, P.cellsOf f2.type, P.cellsOf f3.type, P.cellsOf f4.type, P.cellsOf f5.type, P.cellsOf lb, P.cellsOf n0.type, P.cellsOf n1.type, P.cellsOf eu) = (1, 1, 1, 2, 1, 2, 2, 1, 1, 1)) :
    ∀ n cs x, cs.length = 8 → DataW.trod enc P w base spare held n t cs = some x → ∃ el : StpE, cs = stpC el ∧ el.good w := by
  intro n cs x hlen h
  obtain ⟨o0, o1, o2, o3, o4, o5, o6, o7⟩ : f0.offset = 0 ∧ f1.offset = 1 ∧ f2.offset = 2 ∧ f3.offset = 3 ∧ f4.offset = 5 ∧ f5.offset = 6 ∧ n0.offset = 0 ∧ n1.offset = 1 := by simpa using o
  obtain ⟨c0, c1, c2, c3, c4, c5, c6, c7, c8, c9⟩ : P.cellsOf f0.type = 1 ∧ P.cellsOf f1.type = 1 ∧ P.cellsOf f2.type = 1 ∧ P.cellsOf f3.type = 2 ∧ P.cellsOf f4.type = 1 ∧ P.cellsOf f5.type = 2 ∧ P.cellsOf lb = 2 ∧ P.cellsOf n0.type = 1 ∧ P.cellsOf n1.type = 1 ∧ P.cellsOf eu = 1 := by simpa using c
  obtain ⟨v0, v1, v2, v3, v4, v5, v6, v7, rfl⟩ := list8T hlen
  obtain ⟨xs, m, _, _, _, hxl, hff⟩ := DataW.trod_struct hs h
  match xs, hxl with
  | [y0, y1, y2, y3, y4, y5], _ =>
    have t0 := hff 0 f0 rfl
    have t1 := hff 1 f1 rfl
    have t2 := hff 2 f2 rfl
    have t3 := hff 3 f3 rfl
    have t4 := hff 4 f4 rfl
    have t5 := hff 5 f5 rfl
    rw [o0, c0] at t0
    rw [o1, c1] at t1
    rw [o2, c2] at t2
    rw [o3, c3] at t3
    rw [o4, c4] at t4
    rw [o5, c5] at t5
    have t0 : DataW.trod enc P w base spare held m f0.type [v0] = some y0 := t0
    have t1 : DataW.trod enc P w base spare held m f1.type [v1] = some y1 := t1
    have t2 : DataW.trod enc P w base spare held m f2.type [v2] = some y2 := t2
    have t3 : DataW.trod enc P w base spare held m f3.type [v3, v4] = some y3 := t3
    have t4 : DataW.trod enc P w base spare held m f4.type [v5] = some y4 := t4
    have t5 : DataW.trod enc P w base spare held m f5.type [v6, v7] = some y5 := t5
    obtain ⟨a, e0, _, w0⟩ := DataW.trod_int k0 t0
    obtain ⟨b, e1, _, w1⟩ := DataW.trod_int k1 t1
    obtain ⟨A, k, l, e2, r2, r3, r4, r5, r6, _⟩ := open_cells labC LabOk hl c6 (by omega) (fun _ => rfl) (elem_lab hlb j0 j1 hone) t2
    obtain ⟨s, e3, r7⟩ := elem_smp hx i0 i1 hone2 _ _ _ rfl t3
    obtain ⟨nm, e4, _, w4⟩ := DataW.trod_string k4 t4
    obtain ⟨nd, e5, r8⟩ := elem_node hn m0 m1 hu (by rw [o6, o7]) (by rw [c7, c8, c9]) _ _ _ rfl t5
    refine ⟨⟨a, b, ⟨A, k, l⟩, s, nm, nd⟩, ?_, bounds_i64 w0, bounds_i64 w1, ⟨r2, r3, r4, r5, r6⟩, r7, w4, r8⟩
    have e0 : v0 = .int .i64 a := by injection e0
    have e1 : v1 = .int .i64 b := by injection e1
    have e2 : v2 = .slice A l.length k := by injection e2
    have e3 : [v3, v4] = [.int .i64 s.t, .int .i64 s.v] := e3
    have e4 : v5 = .string nm := by injection e4
    have e5 : [v6, v7] = [.string nd.nm, .slice nd.t.A nd.t.l.length nd.t.c] := e5
    injection e3 with e31 e32
    injection e32 with e32 _
    injection e5 with e51 e52
    injection e52 with e52 _
    rw [e0, e1, e2, e31, e32, e4, e51, e52]
    rfl
theorem open_steps {pt t lb eu : TypeId} {f0 f1 f2 f3 f4 f5 g0 g1 h0 h1 n0 n1 : Field} (ht : P.underlying pt = some (.slice t)) (hs : P.underlying t = some (.struct #[f0, f1, f2, f3, f4, f5])) (k0 : P.underlying f0.type = some (.int .i64)) (k1 : P.underlying f1.type = some (.int .i64)) (hl : P.underlying f2.type = some (.slice lb)) (hx : P.underlying f3.type = some (.struct #[g0, g1])) (k4 : P.underlying f4.type = some .string) (hn : P.underlying f5.type = some (.struct #[n0, n1]))
    (i0 : P.underlying g0.type = some (.int .i64)) (i1 : P.underlying g1.type = some (.int .i64)) (hlb : P.underlying lb = some (.struct #[h0, h1])) (j0 : P.underlying h0.type = some .string) (j1 : P.underlying h1.type = some .string) (m0 : P.underlying n0.type = some .string) (m1 : P.underlying n1.type = some (.slice eu)) (hu : P.underlying eu = some (.int .u64))
    (hone : oneCellFields P #[h0, h1] = true) (hone2 : oneCellFields P #[g0, g1] = true)
    (o : (f0.offset, f1.offset, f2.offset, f3.offset, f4.offset, f5.offset, n0.offset, n1.offset) = (0, 1, 2, 3, 5, 6, 0, 1)) (c : (P.cellsOf f0.type, P.cellsOf f1.type, P.cellsOf f2.type, P.cellsOf f3.type, P.cellsOf f4.type, P.cellsOf f5.type, P.cellsOf lb, P.cellsOf n0.type, P.cellsOf n1.type, P.cellsOf eu) = (1, 1, 1, 2, 1, 2, 2, 1, 1, 1)) (hC : P.cellsOf t = 8) (hB : P.bytesOf t = 112)
    {r : Reach} {b0 : Nat} {v : Value} {d : DataW H} {p : List MemPlace} (hval : Value.okWide P w r b0 pt v) (h : DataW.Trod enc P w base spare held pt v d p) (hsz : ∀ n ∈ d.weights P pt, n ≤ reachBytes) :
    ∃ (A : Option Addr) (k : Nat) (l : List StpE), v = .slice A l.length k ∧ (∀ e ∈ l, e.good w) ∧ l.length ≤ k ∧ k ≤ maxLen ∧ (A = none → k = 0) ∧ Has w w.heap.size A (stpCs l) ∧ l.length * 112 ≤ 140737488351232 :=
  open_list stpC (fun e => e.good w) ht hC hB (by omega) (fun _ => rfl) (elem_step hs k0 k1 hl hx k4 hn i0 i1 hlb j0 j1 m0 m1 hu hone hone2 o c) hval h hsz
end
end Go.Proofs.YtihjgbhnlejhfaaGreatDoor
namespace Go.Proofs.YtihjgbhnlejhfaaGreatDoor
open Go.RowKit Go.ChangeMaps

theorem stpCs_at {l : List StpE} {k : Nat} (h : k < l.length) {r : Nat} (hr : r < 8) : (stpCs l)[k * 8 + r]? = (stpC (at_ l k))[r]? := flat_at (f := stpC) (C := 8) (fun _ => rfl) h hr
/-- where a step lies -/
theorem stp_cells {W : World} {A : Option Addr} {l : List StpE} {k : Nat} (h : Has W W.heap.size A (stpCs l)) (hk : k < l.length) : ∃ ad, A = some ad ∧ W.cell? (ad.add (k * 8)) = some (.int .i64 (at_ l k).kind) ∧
    W.cell? ⟨(ad.add (k * 8)).block, (ad.add (k * 8)).off + 1, none⟩ = some (.int .i64 (at_ l k).keep) ∧ W.cell? ⟨(ad.add (k * 8)).block, (ad.add (k * 8)).off + 2, none⟩ = some (.slice (at_ l k).t.A (at_ l k).t.l.length (at_ l k).t.c) ∧
    W.cell? ⟨(ad.add (k * 8)).block, (ad.add (k * 8)).off + 3, none⟩ = some (.int .i64 (at_ l k).x.t) ∧ W.cell? ⟨(ad.add (k * 8)).block, (ad.add (k * 8)).off + 4, none⟩ = some (.int .i64 (at_ l k).x.v) ∧
    W.cell? ⟨(ad.add (k * 8)).block, (ad.add (k * 8)).off + 5, none⟩ = some (.string (at_ l k).nm) ∧ W.cell? ⟨(ad.add (k * 8)).block, (ad.add (k * 8)).off + 6, none⟩ = some (.string (at_ l k).node.nm) ∧
    W.cell? ⟨(ad.add (k * 8)).block, (ad.add (k * 8)).off + 7, none⟩ = some (.slice (at_ l k).node.t.A (at_ l k).node.t.l.length (at_ l k).node.t.c) := by
  have hs : ∀ (r : Nat) (v : Value), r < 8 → (stpC (at_ l k))[r]? = some v → (stpCs l)[k * 8 + r]? = some v := fun r v hr hv => (stpCs_at hk hr).trans hv
  obtain ⟨ad, rfl, _, g0⟩ := h.at (hs 0 _ (by omega) rfl)
  have hg : ∀ (r : Nat) (v : Value), 0 < r → r < 8 → (stpC (at_ l k))[r]? = some v → W.cell? ⟨(ad.add (k * 8)).block, (ad.add (k * 8)).off + r, none⟩ = some v := fun r v h0 hr hv => by
    obtain ⟨ad', e, _, g⟩ := h.at (hs r v hr hv)
    injection e with e
    subst e
    exact cell_off g h0
  exact ⟨ad, rfl, g0, hg 1 _ (by omega) (by omega) rfl, hg 2 _ (by omega) (by omega) rfl, hg 3 _ (by omega) (by omega) rfl, hg 4 _ (by omega) (by omega) rfl, hg 5 _ (by omega) (by omega) rfl, hg 6 _ (by omega) (by omega) rfl, hg 7 _ (by omega) (by omega) rfl⟩
set_option maxRecDepth 1000000 in
set_option maxHeartbeats 8000000 in
theorem houseAcks_any (W : World) (A0 : Option Addr) (c0 : Nat) (L : List NodE) (ok0 : ∀ e ∈ L, NodOk W e) (_lc0 : L.length ≤ c0) (_cm0 : c0 ≤ maxLen) (_nil0 : A0 = none → c0 = 0) (has0 : Has W W.heap.size A0 (nodCs L)) (_reach0 : L.length * 40 ≤ 140737488351232)
    (C : Int) (_bC : -9223372036854775808 ≤ C ∧ C ≤ 9223372036854775807) (Wr : Int) (_bW : -9223372036854775808 ≤ Wr ∧ Wr ≤ 9223372036854775807) (R : Int) (_bR : -9223372036854775808 ≤ R ∧ R ≤ 9223372036854775807)
    (A4 : Option Addr) (c4 : Nat) (l : List StpE) (ok4 : ∀ e ∈ l, e.good W) (lc4 : l.length ≤ c4) (cm4 : c4 ≤ maxLen) (_nil4 : A4 = none → c4 = 0) (has4 : Has W W.heap.size A4 (stpCs l)) (_reach4 : l.length * 112 ≤ 140737488351232)
    (p : PutE) (gp : p.good W) (tS : SgAt W) :
    Calls Tryz.prog 3 #[.slice A0 L.length c0, .int .i64 C, .int .i64 Wr, .int .i64 R, .slice A4 l.length c4, .agg #[.slice p.t.A p.t.l.length p.t.c, .int .i64 p.x.t, .int .i64 p.x.v]] W (R1 (.bool true) (Below W.heap.size W)) := by
  obtain ⟨n0, hn0⟩ : ∃ n0, L.length = n0 := ⟨_, rfl⟩
  obtain ⟨n, hn⟩ : ∃ n, l.length = n := ⟨_, rfl⟩
  obtain ⟨pn, hpn⟩ : ∃ pn, p.t.l.length = pn := ⟨_, rfl⟩
  obtain ⟨W0, hW0⟩ : ∃ W0, W.alloc (.cells #[.slice p.t.A pn p.t.c, .int .i64 p.x.t, .int .i64 p.x.v] 28) = W0 := ⟨_, rfl⟩
  obtain ⟨q, hq⟩ : ∃ q, W.heap.size = q := ⟨_, rfl⟩
  have hb0 : Below W.heap.size W W0 := by rw [← hW0]; exact one_allocB _ _
  have kx : Blk W0 q 28 #[.slice p.t.A pn p.t.c, .int .i64 p.x.t, .int .i64 p.x.v] := by rw [← hW0]; exact Blk.newD _ _ _ _ hq
  have hHs := Lib.hid (houses_any W0)
  have hNew := Lib.hid (fun (w1 : World) (hb1 : Below W.heap.size W w1) => hnew_any A0 n0 c0 L hn0 (by omega) C Wr R w1 (has0.next hb1) (fun e he => (ok0 e he).next hb1))
  have Hok4 := Lib.hid (fun e (he : e ∈ l) => (ok4 e he).inn)
  have Hhas4 := Lib.hid has4
  have Hn := Lib.hid hn
  have Hgp := Lib.hid gp
  have Hpn := Lib.hid hpn
  have HS := Lib.hid tS
  have HW0 := Lib.hid hW0
  have Hq := Lib.hid hq
  have Hb0 := Lib.hid hb0
  have Hkx := Lib.hid kx
  have hnl : n ≤ maxLen := by omega
  rw [hn0, hn, hpn]
  clear ok0 has0 ok4 has4 hn0 hn hpn gp tS hW0 hq hb0 kx lc4 cm4
  go_enter Tryz.func3, Tryz.ntmps3
  go_upto_region 1 with fail
  rw [HW0.out, Hq.out]
  go_wp2_with fail
  refine hHs.out.mono ?_
  rintro e w1 ⟨rfl, hb1⟩
  have hb01 := bnext Hb0.out hb1
  have hN1 := Lib.hid (hNew.out w1 hb01)
  have kx1 := Lib.hid (Hkx.out.next hb1)
  have hb01 := Lib.hid hb01
  clear hb1 hNew hHs
  go_wp2_with fail
  refine hN1.out.mono ?_
  rintro e w2 ⟨v, rfl, hc, hb2⟩
  have hb02 := Lib.hid (bnext hb01.out hb2)
  rcases hc with ⟨he, rfl⟩ | ⟨hE, hb, rfl, hM⟩
  · have f1 : (newE (L.map NodE.x) C Wr R != 0) = true := by rw [bne_iff_ne]; exact he
    obtain ⟨er, her⟩ : ∃ er, newE (L.map NodE.x) C Wr R = er := ⟨_, rfl⟩
    rw [her] at f1 ⊢
    clear he her hb2
    go_wp2_with fail
    go_ret
    exact R1.mk rfl hb02.out
  · by_cases h20 : (20 : Int) < (n : Int)
    · clear hE hM hb2
      go_wp2_with fail
      go_ret
      exact R1.mk rfl hb02.out
    · obtain ⟨hI, hr20, hw20, hwr1, _, hcC, hcW, _⟩ := newH_ok hE
      have hsb : 0 < w1.heap.size := Nat.lt_of_lt_of_le HS.out.1 hb01.out.size
      obtain ⟨h0, hh0⟩ : ∃ h0, newH (L.map NodE.x) C Wr R = h0 := ⟨_, rfl⟩
      rw [hh0] at hM hI hr20 hw20 hwr1 hcC hcW
      have Hrun := Lib.hid (fun (j : Nat) (_hj : j ≤ n) => run_sub hI ((l.map StpE.s).take j) (by rw [List.length_take]; omega) (fun a ha => by
        obtain ⟨e, he, rfl⟩ := List.mem_map.1 (List.mem_of_mem_take ha)
        exact (Hok4.out e he).x))
      have Hsame := Lib.hid (fun (j : Nat) => runH_same ((l.map StpE.s).take j) h0)
      have Hplen := Lib.hid (fun (j : Nat) (_hj : j ≤ n) => show (putsOf ((l.map StpE.s).take j)).length ≤ j from Nat.le_trans (putsOf_len _) (by rw [List.length_take]; exact Nat.min_le_left _ _))
      have hM := Lib.hid hM
      have kx2 := Lib.hid (kx1.out.next hb2)
      have HcC := Lib.hid hcC
      have HcW := Lib.hid hcW
      have hn20 : n ≤ 20 := by omega
      have ho2 := Lib.hid (OutH.of hb2 (Nat.le_refl _))
      clear hE hI hb2 hh0 hcC hcW
      go_wp2_with fail
      go_loopw [57] (fun i wr => ∃ j : Nat, j ≤ n ∧ i = .int .i64 (j : Nat) ∧ Hid (HsM wr w1.heap.size hb (runH h0 ((l.map StpE.s).take j))) ∧ Hid (OutH w1.heap.size w1 wr)) (fun i _ => n + 5 - (intOf i).toNat)
      case atStart => exact ⟨0, by omega, rfl, Lib.hid (by rw [List.take_zero]; exact hM.out), ho2⟩
      case round =>
        obtain ⟨j, hj, rfl, hMj, hoj⟩ := hrel
        have hbj := Lib.hid (hb01.out.trans (hoj.out.below.mono hb01.out.size))
        have hbs : w1.heap.size ≤ wr.heap.size := hoj.out.size
        by_cases hlt : (j : Int) < (n : Int)
        · have hjl : j < l.length := by rw [Hn.out]; omega
          obtain ⟨ad, rfl, g0, g1, g2, g3, g4, g5, g6, g7⟩ := stp_cells (Hhas4.out.next hbj.out) hjl
          have hjs : j < (l.map StpE.s).length := by rw [List.length_map]; exact hjl
          have hat : at_ (l.map StpE.s) j = (at_ l j).s := by rw [at_eq hjs, List.getElem_map, ← at_eq hjl]
          have hnx : runH h0 ((l.map StpE.s).take (j + 1)) = (doneH (runH h0 ((l.map StpE.s).take j)) (at_ l j).s).1 := by rw [take_snoc hjs, runH_snoc, hat]
          have hein := (Hok4.out _ (at_mem hjl)).next hbj.out
          obtain ⟨e, he⟩ : ∃ e, at_ l j = e := ⟨_, rfl⟩
          rw [he] at g0 g1 g2 g3 g4 g5 g6 g7 hnx hein
          obtain ⟨tn, htn⟩ : ∃ tn, e.t.l.length = tn := ⟨_, rfl⟩
          obtain ⟨np, hnp⟩ : ∃ np, e.node.t.l.length = np := ⟨_, rfl⟩
          rw [htn] at g2
          rw [hnp] at g7
          have q0 : (0 : Int) ≤ (j : Int) := by omega
          obtain ⟨W8, hW8⟩ : ∃ W8, wr.alloc (.cells #[.int .i64 e.kind, .int .i64 e.keep, .slice e.t.A tn e.t.c, .int .i64 e.x.t, .int .i64 e.x.v, .string e.nm, .string e.node.nm, .slice e.node.t.A np e.node.t.c] 38) = W8 := ⟨_, rfl⟩
          obtain ⟨q8, hq8⟩ : ∃ q8, wr.heap.size = q8 := ⟨_, rfl⟩
          have hb8 : Below wr.heap.size wr W8 := by rw [← hW8]; exact one_allocB _ _
          have k8 : Blk W8 q8 38 #[.int .i64 e.kind, .int .i64 e.keep, .slice e.t.A tn e.t.c, .int .i64 e.x.t, .int .i64 e.x.v, .string e.nm, .string e.node.nm, .slice e.node.t.A np e.node.t.c] := by rw [← hW8]; exact Blk.newD _ _ _ _ hq8
          have d0 : W8.cell? ⟨q8, 0, none⟩ = some (.int .i64 e.kind) := k8.cell 0
          have d1 : W8.cell? ⟨q8, 1, none⟩ = some (.int .i64 e.keep) := k8.cell 1
          have d2 : W8.cell? ⟨q8, 2, none⟩ = some (.slice e.t.A tn e.t.c) := k8.cell 2
          have d3 : W8.cell? ⟨q8, 3, none⟩ = some (.int .i64 e.x.t) := k8.cell 3
          have d4 : W8.cell? ⟨q8, 4, none⟩ = some (.int .i64 e.x.v) := k8.cell 4
          have d5 : W8.cell? ⟨q8, 5, none⟩ = some (.string e.nm) := k8.cell 5
          have d6 : W8.cell? ⟨q8, 6, none⟩ = some (.string e.node.nm) := k8.cell 6
          have d7 : W8.cell? ⟨q8, 7, none⟩ = some (.slice e.node.t.A np e.node.t.c) := k8.cell 7
          have hbw8 : W.heap.size ≤ W8.heap.size := Nat.le_trans hbj.out.size hb8.size
          have hb1w8 : Below w1.heap.size w1 W8 := (hoj.out.trans (OutH.of hb8 hbs)).below
          have hpl := Hplen.out j hj
          have hD := Lib.hid (done_any w1.heap.size hb (putsOf ((l.map StpE.s).take j)) (runH h0 ((l.map StpE.s).take j)) (by omega) e tn np htn hnp W8 ⟨hMj.out.next hb8, Hrun.out j hj, by rw [(Hsame.out j).2.2]; exact hr20, by rw [(Hsame.out j).2.1]; exact hw20⟩ (Nat.le_trans hbs hb8.size)
            ((hein.next ((Below.mono hb8 hbj.out.size))).more hb01.out.size) (HS.out.next (bnext hbj.out hb8)) hsb)
          have hoW := Lib.hid (hoj.out.trans (OutH.of hb8 hbs))
          have Hnx := Lib.hid hnx
          clear hjl hjs hat hnx hein he htn hnp hb8 k8 hbw8 hb1w8 hpl
          go_upto_region 9 with fail
          (try rw [hW8]); (try rw [hq8])
          clear hW8 hq8 g0 g1 g2 g3 g4 g5 g6 g7
          go_wp2_with fail
          refine hD.out.mono ?_
          rintro e9 w9 ⟨rfl, hM9, hO9⟩
          have hM9 := Lib.hid (by rw [← Hnx.out] at hM9; exact hM9)
          have hO9 := Lib.hid (hoW.out.trans hO9)
          clear d0 d1 d2 d3 d4 d5 d6 d7
          go_wp2_with fail
          go_roundw
          case rel => exact ⟨j + 1, by omega, by go_num, hM9, hO9⟩
          case measure => simp [intOf]; omega
        · obtain rfl : n = j := by omega
          have hz := hMj.out
          have hin := Hrun.out n (by omega)
          have hsm := Hsame.out n
          have hpl := Hplen.out n (by omega)
          rw [show (l.map StpE.s).take n = l.map StpE.s by rw [List.take_of_length_le]; rw [List.length_map, Hn.out]; exact Nat.le_refl _] at hz hin hsm hpl
          obtain ⟨hr, hhr⟩ : ∃ hr, runH h0 (l.map StpE.s) = hr := ⟨_, rfl⟩
          rw [hhr] at hz hin hsm
          obtain ⟨⟨l1, l2, l3, l4, l5⟩, gx⟩ := Hgp.out
          have hpn := Hpn.out
          have hP := Lib.hid (hput_any w1.heap.size hb (putsOf (l.map StpE.s)).length hr hin.hse (by omega) (by rw [hsm.2.1]; exact hw20) p.t.A pn p.t.c p.t.l hpn (by omega) (fun e => by have h1 := l4 e; omega) p.x gx l1 wr hz hbs ((l5.keep fun a ha => hbj.out.cell ha).more hb01.out.size) (HS.out.next hbj.out) hsb)
          have hA := put_acks2 hr (by rw [hsm.2.1]; exact hwr1) p.t.l p.x
          rw [hsm.1, hsm.2.1] at hA
          obtain ⟨⟨h2, k, f⟩, hres⟩ : ∃ r, putH hr p.t.l p.x = r := ⟨_, rfl⟩
          rw [hres] at hP hA
          obtain ⟨a1, a2, a3⟩ := hA
          simp only [] at a1 a2 a3
          have kxr := hoj.out.blk kx1.out (by unfold HsKind StKind; decide)
          have x0 : wr.cell? ⟨q, 0, none⟩ = some (.slice p.t.A pn p.t.c) := kxr.cell 0
          have x1 : wr.cell? ⟨q, 1, none⟩ = some (.int .i64 p.x.t) := kxr.cell 1
          have x2 : wr.cell? ⟨q, 2, none⟩ = some (.int .i64 p.x.v) := kxr.cell 2
          have b1 : (k : Int) ≤ C := by have := HcC.out; omega
          have b2 : f = 0 ↔ Wr ≤ (k : Int) := by have := HcW.out; rw [a3]; omega
          have q0 : (0 : Int) ≤ (k : Int) := by omega
          clear hz hin hsm hpl hhr l1 l2 l3 l4 l5 gx hpn hres kxr a1 a3
          go_wp2_with fail
          refine hP.out.mono ?_
          rintro e9 w9 ⟨rfl, _, hO9⟩
          have hfin := Lib.hid (show Below W.heap.size W w9 from hbj.out.trans (hO9.below.mono hb01.out.size))
          clear hO9 x0 x1 x2
          by_cases hf0 : f = 0
          · have hk := b2.1 hf0
            subst hf0
            clear a2 b2
            go_wp2_with fail
            go_ret
            exact R1.mk rfl hfin.out
          · have hk : ¬ Wr ≤ (k : Int) := fun e => hf0 (b2.2 e)
            have hkd : decide (Wr ≤ (k : Int)) = false := decide_eq_false hk
            have f1 : (f != 0) = true := by rw [bne_iff_ne]; exact hf0
            have f2 : (f == 0) = false := by simpa using hf0
            clear b2
            by_cases hf13 : f = 13
            · subst hf13
              clear a2 hf0
              go_wp2_with fail
              go_ret
              exact R1.mk rfl hfin.out
            · have f3 : (f != 13) = true := by rw [bne_iff_ne]; exact hf13
              have hk0 := a2 hf0 hf13
              subst hk0
              clear a2 hf0 hf13
              go_wp2_with fail
              go_ret
              exact R1.mk rfl hfin.out
end Go.Proofs.YtihjgbhnlejhfaaGreatDoor
