/- Texts of the proof of HouseAcks, joined (by merge.py). Conditions: each theorem's own hypotheses. -/
import Derived.Test.YtihjgbhnlejhfaaGreatDoorHouseAcksP10
import Derived.Test.YtihjgbhnlejhfaaGreatDoorHouseAcksP38
import Derived.Test.YtihjgbhnlejhfaaGreatDoorHouseAcksP40
import Derived.Test.YtihjgbhnlejhfaaGreatDoorHouseAcksP41
namespace Go.Proofs.YtihjgbhnlejhfaaGreatDoor
open Go.RowKit Go.ChangeMaps

/-- a map keyed by strings, told by the set of its keys -/
def KMap (R : Value → ByteArray → Prop) (kvs : List (Value × Value)) (K : ByteArray → Prop) : Prop := (∀ p ∈ kvs, ∃ key, K key ∧ p.1 = Value.string key ∧ R p.2 key) ∧ ∀ key, K key → ∃ v, (Value.string key, v) ∈ kvs
theorem KMap.nil (R : Value → ByteArray → Prop) : KMap R [] (fun _ => False) := ⟨fun _ hp => absurd hp (List.not_mem_nil), fun _ h => False.elim h⟩
theorem KMap.put {R : Value → ByteArray → Prop} {kvs kvs' : List (Value × Value)} {K : ByteArray → Prop} {key : ByteArray} {v : Value} (h : KMap R kvs K) (hp : PutV kvs (.string key) v kvs') (hv : R v key) : KMap R kvs' (fun k => K k ∨ k = key) := by
  rcases hp with ⟨pre, v0, post, rfl, rfl⟩ | ⟨_, rfl⟩
  · refine ⟨fun p hm => ?_, fun k hk => ?_⟩
    · rcases List.mem_append.1 hm with e | e
      · obtain ⟨k, h1, h2⟩ := h.1 p (List.mem_append_left _ e)
        exact ⟨k, .inl h1, h2⟩
      · rcases List.mem_cons.1 e with e | e
        · rw [e]; exact ⟨key, .inr rfl, rfl, hv⟩
        · obtain ⟨k, h1, h2⟩ := h.1 p (List.mem_append_right _ (List.mem_cons_of_mem _ e))
          exact ⟨k, .inl h1, h2⟩
    · by_cases he : k = key
      · rw [he]; exact ⟨v, by simp⟩
      · rcases hk with hk | hk
        · obtain ⟨u, hu⟩ := h.2 k hk
          rcases List.mem_append.1 hu with e | e
          · exact ⟨u, List.mem_append_left _ e⟩
          · rcases List.mem_cons.1 e with e | e
            · injection e with e _
              injection e with e
              exact absurd e he
            · exact ⟨u, List.mem_append_right _ (List.mem_cons_of_mem _ e)⟩
        · exact absurd hk he
  · refine ⟨fun p hm => ?_, fun k hk => ?_⟩
    · rcases List.mem_append.1 hm with e | e
      · obtain ⟨k, h1, h2⟩ := h.1 p e
        exact ⟨k, .inl h1, h2⟩
      · rw [List.mem_singleton] at e
        rw [e]; exact ⟨key, .inr rfl, rfl, hv⟩
    · rcases hk with hk | hk
      · obtain ⟨u, hu⟩ := h.2 k hk
        exact ⟨u, List.mem_append_left _ hu⟩
      · rw [hk]; exact ⟨v, by simp⟩
theorem KMap.mono {R R' : Value → ByteArray → Prop} {kvs : List (Value × Value)} {K K' : ByteArray → Prop} (h : KMap R kvs K) (hR : ∀ v k, R v k → R' v k) (hK : ∀ k, K k ↔ K' k) : KMap R' kvs K' :=
  ⟨fun p hp => by obtain ⟨k, h1, h2, h3⟩ := h.1 p hp; exact ⟨k, (hK k).1 h1, h2, hR _ _ h3⟩, fun k hk => h.2 k ((hK k).2 hk)⟩
theorem KMap.keys {R : Value → ByteArray → Prop} {K : ByteArray → Prop} : ∀ {kvs : List (Value × Value)}, KMap R kvs K → ∃ ks : List ByteArray, kvs.map (·.1) = ks.map Value.string ∧ ∀ k, k ∈ ks ↔ K k := by
  intro kvs h
  have h1 : ∀ (l : List (Value × Value)), (∀ p ∈ l, ∃ key, K key ∧ p.1 = Value.string key ∧ R p.2 key) → ∃ ks : List ByteArray, l.map (·.1) = ks.map Value.string ∧ ∀ k ∈ ks, K k := by
    intro l
    induction l with
    | nil => intro _; exact ⟨[], rfl, fun k hk => by cases hk⟩
    | cons p l ih =>
      intro hl
      obtain ⟨key, k1, k2, _⟩ := hl p List.mem_cons_self
      obtain ⟨ks, e1, e2⟩ := ih fun q hq => hl q (List.mem_cons_of_mem _ hq)
      exact ⟨key :: ks, by rw [List.map_cons, List.map_cons, e1, k2], fun k hk => by
        rcases List.mem_cons.1 hk with e | e
        · rw [e]; exact k1
        · exact e2 k e⟩
  obtain ⟨ks, e1, e2⟩ := h1 kvs h.1
  refine ⟨ks, e1, fun k => ⟨e2 k, fun hk => ?_⟩⟩
  obtain ⟨v, hv⟩ := h.2 k hk
  have h3 : Value.string k ∈ kvs.map (·.1) := List.mem_map.2 ⟨_, hv, rfl⟩
  rw [e1] at h3
  obtain ⟨k2, hk2, e3⟩ := List.mem_map.1 h3
  injection e3 with e3
  rw [← e3]; exact hk2
theorem KMap.at {R : Value → ByteArray → Prop} {kvs : List (Value × Value)} {K : ByteArray → Prop} (h : KMap R kvs K) {key : ByteArray} {v : Value} (hm : (Value.string key, v) ∈ kvs) : R v key ∧ K key := by
  obtain ⟨k, h1, h2, h3⟩ := h.1 _ hm
  injection h2 with h2
  rw [h2]; exact ⟨h3, h1⟩
/-- a row of a key's labels -/
def LabAt (w : World) (B : Nat) (v : Value) (key : ByteArray) : Prop := ∃ A n c, v = .slice A n c ∧ (labOf key).length = n ∧ w.ownsRow B 85 2 (.slice A n c) n (labCs (labOf key)) ∧ chkL (labOf key) = 0 ∧ txL (labOf key) = key
theorem LabAt.cells {w w' : World} {B : Nat} {v : Value} {key : ByteArray} (h : LabAt w B v key) (hc : CellsK w w') : LabAt w' B v key := by
  obtain ⟨A, n, c, h1, h2, h3, h4⟩ := h
  exact ⟨A, n, c, h1, h2, hc.own h3, h4⟩
def hasKey (p : Peer) (key : ByteArray) : Prop := findSt p.st key ≠ none
theorem hasKey_iff {p : Peer} (h : PeerOk p) (key : ByteArray) : hasKey p key ↔ ∃ q, q < (allN p.st).length ∧ txL (at_ (allN p.st) q).1 = key := by
  constructor
  · intro hk
    refine Classical.byContradiction fun hno => hk ?_
    cases hf : findSt p.st key with
    | none => rfl
    | some y =>
      exfalso
      have hm := keysS_in (List.mem_map.2 ⟨_, find_mem hf, rfl⟩)
      obtain ⟨j, hj, e⟩ := List.getElem_of_mem hm
      have hj2 : j < (allN p.st).length := by unfold allN; rwa [List.length_map]
      refine hno ⟨j, hj2, ?_⟩
      have e2 : at_ (allN p.st) j = y := by
        rw [allN_key hj2 hj, e]
        unfold serAt
        rw [hf]
        rfl
      rw [e2]
      exact (h.inv.ent _ (find_mem hf)).1.symm
  · rintro ⟨q, hq, e⟩
    obtain ⟨k, h1, h2, _⟩ := allN_at h hq
    unfold hasKey
    rw [← e, ← h2, h1]
    simp
theorem below_grownR {a W W' : World} {r : Nat} (h : Below a.heap.size a W) (hg : W.grownBy W' (some r)) (hr : a.heap.size ≤ r) : Below a.heap.size a W' :=
  ⟨hg.os.trans h.os, hg.tape.trans h.tape, hg.output.trans h.output, Nat.le_trans h.size hg.size, fun k hk => (hg.block k (Nat.lt_of_lt_of_le hk h.size) (fun e => by injection e with e; omega)).trans (h.block k hk)⟩
theorem CellsK.of_grown {W W' : World} {r : Nat} {o : Obj} (hg : W.grownBy W' (some r)) (hr : W.heap[r]? = some o) (ho : o.isWalk = true) : CellsK W W' :=
  ⟨hg.size, fun k cs t fr hk => hg.block k (Array.getElem?_eq_some_iff.1 hk).1 (fun e => by
    injection e with e
    subst e
    rw [hk] at hr
    injection hr with hr
    rw [← hr] at ho
    cases ho)⟩
/-- what keys answers -/
def KeysHP (h : Hse) (w : World) (v : Value) (w' : World) : Prop := ∃ mo es2 cl2 kvs2, v = .map (some mo) ∧ w.heap.size ≤ mo ∧ w'.heap[mo]? = some (.map es2 cl2) ∧ MpS Tryz.prog 9 es2 cl2 kvs2 ∧ KMap (LabAt w' w.heap.size) kvs2 (fun key => ∃ p ∈ h.ps, hasKey p key) ∧ Below w.heap.size w w'
set_option maxRecDepth 1000000 in
set_option maxHeartbeats 8000000 in
theorem hkeys_any (base hb mb : Nat) (NA : Option Addr) (nc : Nat) (NL : List NodE) (es : Array MapEntry) (clock : Nat) (kvs : List (Value × Value)) (ls : List (Nat × Nat)) (puts : List Pt) (h : Hse) (hI : HseI puts h) (hm : puts.length ≤ 22)
    (w : World) (hh : HsAt w base hb mb NA nc NL es clock kvs ls h) (tS : SgAt w) :
    Calls Tryz.prog 92 #[.pointer (some ⟨hb, 0, none⟩)] w (RV (KeysHP h w)) := by
  obtain ⟨W2, hW2⟩ : ∃ W2, w.alloc (.map #[] 0) = W2 := ⟨_, rfl⟩
  obtain ⟨mo, hmo⟩ : ∃ mo, w.heap.size = mo := ⟨_, rfl⟩
  have hmk : (Instr.makeMap 150 none).run Tryz.prog w = .ok (.map (some mo)) W2 := by rw [← hmo, ← hW2]; kernel_rfl
  have hb2 : Below w.heap.size w W2 := by rw [← hW2]; exact one_allocB _ _
  have hm2 : W2.heap[mo]? = some (.map #[] 0) := by rw [← hW2, ← hmo]; exact heap_alloc_new _ _
  have hh2 := hh.next hb2
  have o4 : W2.cell? ⟨hb, 4, none⟩ = some (.map (some mb)) := hh2.obj.cell 4
  obtain ⟨w3, hrange, hIt0, hg0, hs0⟩ := MpIt.range (P := Tryz.prog) Tryz.underlying69 hh2.peers.mp hh2.peers.shape
  obtain ⟨r, hr⟩ : ∃ r, W2.heap.size = r := ⟨_, rfl⟩
  rw [hr] at hrange hIt0
  have hrmo : mo < r := by rw [← hr, ← hW2, ← hmo]; simp
  have hm3 := Lib.hid ((hg0.block mo (Array.getElem?_eq_some_iff.1 hm2).1 (by simp)).trans hm2)
  have hb3 := Lib.hid (show Below w.heap.size w w3 from ⟨hg0.os.trans hb2.os, hg0.tape.trans hb2.tape, hg0.output.trans hb2.output, Nat.le_trans hb2.size hg0.size, fun k hk => (hg0.block k (Nat.lt_of_lt_of_le hk hb2.size) (by simp)).trans (hb2.block k hk)⟩)
  have HIt0 := Lib.hid hIt0
  have Hh := Lib.hid hh
  have HI := Lib.hid hI
  have Hm := Lib.hid hm
  have HS := Lib.hid tS
  have Hmo := Lib.hid hmo
  have hmbmo : mb < mo := by rw [← hmo]; exact (Array.getElem?_eq_some_iff.1 hh.peers.mp).1
  have Hne := Lib.hid (show mb ≠ mo ∧ r ≠ mo ∧ w.heap.size ≤ r from ⟨by omega, by omega, by omega⟩)
  clear hh hh2 hI hm tS hW2 hb2 hm2 hg0 hs0 hr hIt0 hmbmo hmo
  go_enter Tryz.func92, Tryz.ntmps92
  go_wp2_with fail
  go_loopw [16] (fun _ wr => ∃ (done todo : List (Value × Value)) (es2 : Array MapEntry) (cl2 : Nat) (kvs2 : List (Value × Value)), Hid (MpIt Tryz.prog wr 9 mb r es clock kvs done todo) ∧ Hid (wr.heap[mo]? = some (.map es2 cl2)) ∧ Hid (MpS Tryz.prog 9 es2 cl2 kvs2) ∧ Hid (KMap (LabAt wr w.heap.size) kvs2 (fun key => ∃ nm v p, (Value.string nm, v) ∈ done ∧ findP h.ps nm = some p ∧ hasKey p key)) ∧ Hid (Below w.heap.size w wr)) (fun _ wr => wr.rangeLeft mb r)
  case atStart => exact ⟨[], kvs, #[], 0, [], HIt0, hm3, Lib.hid (MpS.empty _ _ _), Lib.hid ((KMap.nil _).mono (fun _ _ h => h) fun k => ⟨fun h => h.elim, fun ⟨_, _, _, h, _⟩ => by cases h⟩), hb3⟩
  case round =>
    obtain ⟨done, todo, es2, cl2, kvs2, hIt, hmm, hsh, hK, hbr⟩ := hrel
    obtain ⟨wj, rfl⟩ : ∃ wj, wj = wr := ⟨_, rfl⟩
    have hmeas := Lib.hid hIt.out.left_eq
    have Hperm := Lib.hid hIt.out.perm
    rcases hIt.out.next with ⟨hnil, hrun⟩ | ⟨key, v, todo', w2, hp, hrun, hIt2, hg2, hsz2, hent⟩
    · subst hnil
      have hfin := Lib.hid (show KeysHP h w (.map (some mo)) wj from ⟨mo, es2, cl2, kvs2, rfl, by rw [Hmo.out]; exact Nat.le_refl _, hmm.out, hsh.out, hK.out.mono (fun _ _ h => h) fun k => by
        have hp0 := Hperm.out
        rw [List.append_nil] at hp0
        constructor
        · rintro ⟨nm, v, p, h1, h2, h3⟩
          exact ⟨p, (findP_mem h2).1, h3⟩
        · rintro ⟨p, h1, h2⟩
          have hx : Value.string p.nm ∈ kvs.map (·.1) := by rw [Hh.out.peers.prs.names]; exact List.mem_map.2 ⟨p, h1, rfl⟩
          obtain ⟨⟨k9, v9⟩, h3, h4⟩ := List.mem_map.1 hx
          simp only [] at h4
          subst h4
          obtain ⟨p9, _, _, _, h5, _⟩ := Hh.out.peers.prs.mem Hh.out.peers.nodup h3
          have h6 := findP_mem h5
          have h7 := peer_uniq HI.out.names h1 h6.1 h6.2
          rw [h7] at h5
          exact ⟨p.nm, v9, p, hp0.mem_iff.2 h3, h5, h2⟩, hbr.out⟩)
      clear hIt
      go_wp2_with fail
      go_ret
      exact RV.mk hfin.out
    · have hlen := hp.length_eq
      have hmono : todo'.length < todo.length := by simp only [List.length_cons] at hlen; omega
      have hkv : (key, v) ∈ kvs := Hperm.out.mem_iff.1 (List.mem_append_right _ (hp.mem_iff.2 List.mem_cons_self))
      obtain ⟨nm, rfl⟩ : ∃ nm, key = Value.string nm := by
        have hx : key ∈ kvs.map (·.1) := List.mem_map.2 ⟨_, hkv, rfl⟩
        rw [Hh.out.peers.prs.names] at hx
        obtain ⟨p, _, e⟩ := List.mem_map.1 hx
        exact ⟨p.nm, e.symm⟩
      have hb2 : Below w.heap.size w w2 := below_grownR hbr.out hg2 Hne.out.2.2
      obtain ⟨o9, ho9, hw9⟩ := hIt.out.walk
      have hc2 : CellsK wj w2 := CellsK.of_grown hg2 ho9 hw9
      have hm2 : w2.heap[mo]? = some (.map es2 cl2) := (hg2.block mo (Array.getElem?_eq_some_iff.1 hmm.out).1 (fun e => by injection e with e; exact Hne.out.2.1 e.symm)).trans hmm.out
      have hh2 := Hh.out.next hb2
      obtain ⟨p, _, hpm, rfl, hf, hPA⟩ := hh2.peers.prs.mem hh2.peers.nodup hkv
      obtain ⟨lc, hlc⟩ : ∃ lc, locOf ls h.ps nm = lc := ⟨_, rfl⟩
      rw [hlc] at hPA hrun hent hIt2 hp hkv
      have hpk := HI.out.peer Hm.out hpm
      have p0 : w2.cell? ⟨lc.1, 0, none⟩ = some (.pointer (some ⟨lc.2, 0, none⟩)) := hPA.blk.cell 0
      have hA := Lib.hid (all_any base lc.2 p.dk p.dk.length p.st hpk.ok.ok hpk.ok.inv.keyOk w2 hPA.st)
      have hki := Lib.hid (hasKey_iff hpk.ok)
      have hat := Lib.hid (fun (j : Nat) (hj : j < (allN p.st).length) => (allN_at hpk.ok hj))
      have hlen2 : (allN p.st).length ≤ 22 := by
        have h1 := hpk.ok.inv.len
        have h2 := hpk.1
        rw [allN_len]
        exact Nat.le_trans h1 h2
      obtain ⟨all, hall⟩ : ∃ all, allN p.st = all := ⟨_, rfl⟩
      rw [hall] at hA hat hlen2 hki
      have Hf := Lib.hid hf
      have HIt2 := Lib.hid hIt2
      have hK2 := Lib.hid (hK.out.mono (fun _ _ h => LabAt.cells h hc2) fun _ => Iff.rfl)
      have Hb2 := Lib.hid hb2
      have Hm2 := Lib.hid hm2
      clear hIt hmm hK hbr hlen hp hkv ho9 hw9 hc2 hm2 hh2 hpm hf hPA hlc hpk hall hIt2 hb2 hg2 hsz2
      go_wp2_with fail
      refine hA.out.mono ?_
      rintro e w5 ⟨v, rfl, A, n, c, es5, rfl, hn, ho, hR, hb5⟩
      have Hn := Lib.hid hn
      have Ho := Lib.hid ho
      have hR := Lib.hid hR
      have hn22 : n ≤ 22 := by rw [← hn]; exact hlen2
      have hb05 := Lib.hid (bnext Hb2.out hb5)
      have hm5 := Lib.hid ((hb5.block mo (Array.getElem?_eq_some_iff.1 Hm2.out).1).trans Hm2.out)
      have hIt5 := Lib.hid (HIt2.out.keep (hb5.block mb (Array.getElem?_eq_some_iff.1 HIt2.out.mp).1) (hb5.block r HIt2.out.lt))
      have hK5 := Lib.hid (hK2.out.mono (fun _ _ h => LabAt.cells h (CellsK.of hb5)) fun _ => Iff.rfl)
      have Hs25 := Lib.hid (show w.heap.size ≤ w2.heap.size from Hb2.out.size)
      clear p0 ho hb5 hlen2 hA hn HIt2 hK2 Hm2 Hb2 hrun hent
      go_wp2_with fail
      go_loopw [26] (fun i wr => ∃ (k : Nat) (es2 : Array MapEntry) (cl2 : Nat) (kvs2 : List (Value × Value)), k ≤ n ∧ i = .int .i64 (k : Nat) ∧ Hid (MpIt Tryz.prog wr 9 mb r es clock kvs (done ++ [(Value.string nm, .pointer (some ⟨lc.1, 0, none⟩))]) todo') ∧ Hid (wr.heap[mo]? = some (.map es2 cl2)) ∧ Hid (MpS Tryz.prog 9 es2 cl2 kvs2) ∧ Hid (KMap (LabAt wr w.heap.size) kvs2 (fun key => (∃ nm v p, (Value.string nm, v) ∈ done ∧ findP h.ps nm = some p ∧ hasKey p key) ∨ ∃ q, q < k ∧ txL (at_ all q).1 = key)) ∧ Hid (Below w.heap.size w wr) ∧ Hid (CellsK w5 wr)) (fun i _ => n + 5 - (intOf i).toNat)
      case atStart => exact ⟨0, es2, cl2, kvs2, by omega, rfl, hIt5, hm5, hsh, Lib.hid (hK5.out.mono (fun _ _ h => h) fun k => ⟨.inl, fun h => h.elim id fun ⟨q, hq, _⟩ => absurd hq (Nat.not_lt_zero q)⟩), hb05, Lib.hid (CellsK.refl _)⟩
      case round =>
        obtain ⟨k, es6, cl6, kvs6, hk, rfl, hItk, hmk6, hsh6, hK6, hbk, hck⟩ := hrel
        by_cases hlt : (k : Int) < (n : Int)
        · have hjl : k < all.length := by rw [Hn.out]; omega
          obtain ⟨u0, u1, hu0, hu1, hs⟩ := hR.out.get hjl
          have hOk : Has wr wr.heap.size (A) (serCs es5) := Has.of_own (hck.out.own Ho.out)
          obtain ⟨ad, rfl, _, c0⟩ := hOk.at hu0
          obtain ⟨ad', e', _, c1⟩ := hOk.at hu1
          injection e' with e'
          subst e'
          have c1 := cell_off c1 (by decide)
          obtain ⟨kk, _, _, hchk⟩ := hat.out k hjl
          have hsucc : ∀ key, (∃ q, q < k + 1 ∧ txL (at_ all q).1 = key) ↔ (∃ q, q < k ∧ txL (at_ all q).1 = key) ∨ key = txL (at_ all k).1 := fun key => by
            constructor
            · rintro ⟨q, hq, e⟩
              rcases Nat.lt_or_ge q k with h1 | h1
              · exact .inl ⟨q, h1, e⟩
              · exact .inr (by rw [← e, show q = k by omega])
            · rintro (⟨q, hq, e⟩ | e)
              · exact ⟨q, by omega, e⟩
              · exact ⟨k, by omega, e.symm⟩
          obtain ⟨y, hy⟩ : ∃ y, at_ all k = y := ⟨_, rfl⟩
          rw [hy] at hs hchk hsucc
          obtain ⟨A1, n1, c1', A2, n2, c2', e5, hl1, hl2, ho1, ho2⟩ := hs
          simp at e5
          obtain ⟨rfl, rfl⟩ := e5
          have ho1 := hck.out.own ho1
          obtain ⟨hL10, hLab⟩ := chkL_ok hchk
          have htx : textN y.1 = (txL y.1, 0) := by unfold textN txL; rw [hchk, if_neg (by simp)]
          have hts : (txL y.1).size ≤ 1200 := txtB_size (chkM_asM hchk)
          have q1 : (0 : Int) ≤ (k : Int) := by omega
          go_upto_region 8 with fail
          obtain ⟨W6, hW6⟩ : ∃ W6, wr.alloc (.cells #[.slice A1 n1 c1', .slice A2 n2 c2'] 101) = W6 := ⟨_, rfl⟩
          obtain ⟨q6, hq6⟩ : ∃ q6, wr.heap.size = q6 := ⟨_, rfl⟩
          have hb6 : Below wr.heap.size wr W6 := by rw [← hW6]; exact one_allocB _ _
          have k6 : Blk W6 q6 101 #[.slice A1 n1 c1', .slice A2 n2 c2'] := by rw [← hW6]; exact Blk.newD _ _ _ _ hq6
          rw [hW6, hq6]
          have x0 : W6.cell? ⟨q6, 0, none⟩ = some (.slice A1 n1 c1') := k6.cell 0
          have HT := lbtext_any A1 n1 c1' y.1 hl1 (by unfold maxLen; omega) W6 (Has.of_own (own_next ho1 hb6)) hLab (HS.out.next (bnext hbk.out hb6))
          rw [htx] at HT
          have HT := Lib.hid HT
          have hlab : labOf (txL y.1) = y.1 := labOf_tx hchk
          have Hlab := Lib.hid (show ∀ W, CellsK wr W → LabAt W w.heap.size (.slice A1 n1 c1') (txL y.1) from fun W hc => ⟨A1, n1, c1', rfl, by rw [hlab]; exact hl1, by rw [hlab]; exact hc.own (own_less ho1 Hs25.out), by rw [hlab]; exact hchk, by rw [hlab]⟩)
          have Hb6 := Lib.hid hb6
          have K6 := Lib.hid k6
          have Hsucc := Lib.hid hsucc
          obtain ⟨key, hkey⟩ : ∃ key, txL y.1 = key := ⟨_, rfl⟩
          rw [hkey] at HT Hlab Hsucc hts
          clear hW6 hq6 hb6 k6 c0 c1 hu0 hu1 hl1 hl2 ho1 ho2 hchk hL10 hLab htx hy hOk hsucc hlab hkey
          go_wp2_with fail
          refine HT.out.mono ?_
          rintro e9 w7 ⟨rfl, hb7⟩
          have x0 : w7.cell? ⟨q6, 0, none⟩ = some (.slice A1 n1 c1') := (K6.out.next hb7).cell 0
          have hb67 := bnext Hb6.out hb7
          have hm7 := (hb67.block mo (Array.getElem?_eq_some_iff.1 hmk6.out).1).trans hmk6.out
          obtain ⟨es', cl', kvs', hupd, hsh', hput⟩ := upd_shape (w := w7) strKey Tryz.underlying150 hm7 hsh6.out (str_keyed key (by unfold maxLen; omega)) (.slice A1 n1 c1')
          have hc7 : CellsK wr (setBlock w7 mo (.map es' cl')) := (CellsK.of hb67).trans (CellsK.setBlock hm7)
          have hK8 := Lib.hid (((hK6.out.mono (fun _ _ h => LabAt.cells h hc7) fun _ => Iff.rfl).put hput (Hlab.out _ hc7)).mono (fun _ _ h => h) (K' := fun key => (∃ nm v p, (Value.string nm, v) ∈ done ∧ findP h.ps nm = some p ∧ hasKey p key) ∨ ∃ q, q < k + 1 ∧ txL (at_ all q).1 = key) fun k9 => by
            rw [Hsucc.out k9]
            exact or_assoc)
          have hm8 := Lib.hid (heap_setBlock_self (o := .map es' cl') (Array.getElem?_eq_some_iff.1 hm7).1)
          have hb8 := Lib.hid (below_setBlockG (bnext hbk.out hb67) (Nat.le_of_eq Hmo.out) (.map es' cl'))
          have hIt8 := Lib.hid (hItk.out.keep (w' := setBlock w7 mo (.map es' cl')) ((heap_setBlock Hne.out.1).trans (hb67.block mb (Array.getElem?_eq_some_iff.1 hItk.out.mp).1)) ((heap_setBlock Hne.out.2.1).trans (hb67.block r hItk.out.lt)))
          have hc8 := Lib.hid (hck.out.trans hc7)
          have hsh' := Lib.hid hsh'
          obtain ⟨W8, hW8⟩ : ∃ W8, setBlock w7 mo (.map es' cl') = W8 := ⟨_, rfl⟩
          rw [hW8] at hupd hK8 hm8 hb8 hIt8 hc8
          clear hW8 hc7 hput hb67 hm7 hb7
          go_wp2_with fail
          go_roundw
          case rel => exact ⟨k + 1, es', cl', kvs', by omega, by go_num, hIt8, hm8, hsh', hK8, hb8, hc8⟩
          case measure => simp [intOf]; omega
        · obtain rfl : k = n := by omega
          have hK9 := Lib.hid (hK6.out.mono (fun _ _ h => h) (K' := fun key => ∃ nm9 v p, (Value.string nm9, v) ∈ done ++ [(Value.string nm, .pointer (some ⟨lc.1, 0, none⟩))] ∧ findP h.ps nm9 = some p ∧ hasKey p key) fun k9 => by
            constructor
            · rintro (⟨nm9, v9, p9, h1, h2⟩ | ⟨q, hq, e⟩)
              · exact ⟨nm9, v9, p9, List.mem_append_left _ h1, h2⟩
              · exact ⟨nm, _, p, List.mem_append_right _ List.mem_cons_self, Hf.out, (hki.out k9).2 ⟨q, by rw [Hn.out]; exact hq, e⟩⟩
            · rintro ⟨nm9, v9, p9, h1, h2, h3⟩
              rcases List.mem_append.1 h1 with e | e
              · exact .inl ⟨nm9, v9, p9, e, h2, h3⟩
              · rw [List.mem_singleton] at e
                injection e with e _
                injection e with e
                subst e
                rw [Hf.out] at h2
                injection h2 with h2
                subst h2
                obtain ⟨q, hq, e⟩ := (hki.out k9).1 h3
                exact .inr ⟨q, by rw [Hn.out] at hq; exact hq, e⟩)
          clear hK5 hIt5 hm5
          go_wp2_with fail
          go_roundw
          case rel => exact ⟨done ++ [(Value.string nm, .pointer (some ⟨lc.1, 0, none⟩))], todo', es6, cl6, kvs6, hItk, hmk6, hsh6, hK9, hbk⟩
          case measure => rw [hItk.out.left_eq, hmeas.out]; exact hmono
end Go.Proofs.YtihjgbhnlejhfaaGreatDoor
namespace Go.Proofs.YtihjgbhnlejhfaaGreatDoor
open Go.Sort

theorem nodup_le {α : Type} [DecidableEq α] : ∀ {l m : List α}, l.Nodup → (∀ x ∈ l, x ∈ m) → l.length ≤ m.length
  | [], m, _, _ => Nat.zero_le _
  | x :: l, m, hn, hs => by
    obtain ⟨h1, h2⟩ := List.nodup_cons.1 hn
    obtain ⟨m1, m2, rfl⟩ := List.append_of_mem (hs x List.mem_cons_self)
    have h3 := nodup_le (m := m1 ++ m2) h2 fun y hy => by
      rcases List.mem_append.1 (hs y (List.mem_cons_of_mem _ hy)) with e | e
      · exact List.mem_append_left _ e
      · rcases List.mem_cons.1 e with e | e
        · rw [e] at hy; exact absurd hy h1
        · exact List.mem_append_right _ e
    rw [List.length_append] at h3
    rw [List.length_append, List.length_cons, List.length_cons]
    omega
/-- all keys that some peer has, sorted -/
def keysH (ps : List Peer) : List ByteArray := sortK (uq (ps.flatMap fun p : Peer => p.st.map (·.1)))
theorem keysH_mem {ps : List Peer} {k : ByteArray} : k ∈ keysH ps ↔ ∃ p ∈ ps, hasKey p k := by
  unfold keysH
  rw [sortK_mem, mem_uq, List.mem_flatMap]
  constructor
  · rintro ⟨p, hp, hk⟩
    exact ⟨p, hp, fun e => find_none_iff.1 e hk⟩
  · rintro ⟨p, hp, hk⟩
    exact ⟨p, hp, Classical.byContradiction fun e => hk (find_none_iff.2 e)⟩
theorem keysH_nodup (ps : List Peer) : (keysH ps).Nodup := sortK_nodup (uq_nodup _)
theorem keysH_of {ps : List Peer} {ks : List ByteArray} (hn : ks.Nodup) (h : ∀ k, k ∈ ks ↔ ∃ p ∈ ps, hasKey p k) : sortK ks = keysH ps := by
  unfold keysH
  refine sortK_perm ((List.perm_ext_iff_of_nodup hn (uq_nodup _)).2 fun k => ?_)
  rw [h k, ← keysH_mem]
  unfold keysH
  rw [sortK_mem]
theorem hasKey_put {puts : List Pt} {h : Hse} (k : HseI puts h) (hm : puts.length ≤ 22) {p : Peer} (hp : p ∈ h.ps) {key : ByteArray} (hk : hasKey p key) : txL (labOf key) = key ∧ chkL (labOf key) = 0 ∧ ∃ q ∈ puts, q.1 = labOf key := by
  have hI := (k.peer hm hp).ok.inv
  have h1 : key ∈ p.st.map (·.1) := Classical.byContradiction fun e => hk (find_none_iff.2 e)
  obtain ⟨t, ht⟩ := (key_iff hI key).1 h1
  rcases peer_top (fun q hq => (k.ok q ((k.sub p hp).mem hq)).2) key t with ⟨e, _⟩ | ⟨v, e, ⟨q, hq, ⟨h2, h3, _⟩, _⟩, _⟩
  · exact absurd e ht
  · have e2 : labOf key = q.1 := by rw [← h3]; exact labOf_tx (okP_chk h2)
    rw [e2]
    exact ⟨h3, okP_chk h2, q, (k.sub p hp).mem hq, rfl⟩
theorem keysH_few {puts : List Pt} {h : Hse} (k : HseI puts h) (hm : puts.length ≤ 22) : (keysH h.ps).length ≤ 22 := by
  have h1 : (keysH h.ps).length ≤ (puts.map fun q : Pt => txL q.1).length := nodup_le (keysH_nodup _) fun x hx => by
    obtain ⟨p, hp, hk⟩ := keysH_mem.1 hx
    obtain ⟨e, _, q, hq, e2⟩ := hasKey_put k hm hp hk
    exact List.mem_map.2 ⟨q, hq, by rw [e2, e]⟩
  rw [List.length_map] at h1
  exact Nat.le_trans h1 hm
/-- what is had of a key -/
def hadK (h : Hse) (key : ByteArray) : List Smp := (getK h key).getD []
/-- a key may go over: it is read, and enough new owners are up -/
def staysB (h : Hse) (nodes : List Nod) (ps : List Peer) (key : ByteArray) : Bool := (getK h key).isSome && decide (h.write ≤ (liveK nodes h.copies ps key).length)
/-- all is given to whom it belongs then -/
def giveAll (h : Hse) (nodes : List Nod) (keys : List ByteArray) (ps : List Peer) : List Peer := keys.foldl (fun ps key => giveTo ps (liveK nodes h.copies ps key) (labOf key) (hadK h key)) ps
def becomeH (h : Hse) (nodes : List Nod) (ps : List Peer) : Hse × Int :=
  if (keysH h.ps).all (staysB h nodes ps) = true then ({ h with nodes := nodes, ps := giveAll h nodes (keysH h.ps) ps }, 0) else (h, 13)
theorem giveAll_take (h : Hse) (nodes : List Nod) (ps : List Peer) {keys : List ByteArray} {j : Nat} (hj : j < keys.length) :
    giveAll h nodes (keys.take (j + 1)) ps = giveTo (giveAll h nodes (keys.take j) ps) (liveK nodes h.copies (giveAll h nodes (keys.take j) ps) (at_ keys j)) (labOf (at_ keys j)) (hadK h (at_ keys j)) := by
  rw [List.take_add_one, List.getElem?_eq_getElem hj, at_eq hj]
  unfold giveAll
  rw [List.foldl_append]
  rfl
theorem hadK_row {puts : List Pt} {h : Hse} (k : HseI puts h) (hm : puts.length ≤ 22) (key : ByteArray) : PutRow puts (labOf key) (hadK h key) := by
  unfold hadK
  cases hg : getK h key with
  | none => exact ⟨List.Pairwise.nil, fun x hx => by cases hx⟩
  | some l => exact (getK_row k hm hg).1
theorem giveAll_sub {puts : List Pt} {h : Hse} (k : HseI puts h) (hm : puts.length ≤ 22) (nodes : List Nod) : ∀ (keys : List ByteArray) (ps : List Peer), HseI puts { h with nodes := nodes, ps := ps } → HseI puts { h with nodes := nodes, ps := giveAll h nodes keys ps }
  | [], _, k2 => k2
  | key :: keys, _, k2 => giveAll_sub k hm nodes keys _ (give_house k2 (hadK_row k hm key))
theorem giveAll_nm (h : Hse) (nodes : List Nod) : ∀ (keys : List ByteArray) (ps : List Peer), (giveAll h nodes keys ps).map (fun p : Peer => p.nm) = ps.map fun p : Peer => p.nm
  | [], _ => rfl
  | _ :: keys, _ => (giveAll_nm h nodes keys _).trans (giveTo_nm _ _ _ _)
theorem becomeH_sub {puts : List Pt} {h : Hse} (k : HseI puts h) (hm : puts.length ≤ 22) {nodes : List Nod} {ps : List Peer} (k2 : HseI puts { h with nodes := nodes, ps := ps }) : HseI puts (becomeH h nodes ps).1 := by
  unfold becomeH
  split
  · exact giveAll_sub k hm nodes _ _ k2
  · exact k
end Go.Proofs.YtihjgbhnlejhfaaGreatDoor
namespace Go.Proofs.YtihjgbhnlejhfaaGreatDoor
open Go.RowKit Go.ChangeMaps

theorem MpS.nodup {P : Program} {k : TypeId} {es : Array MapEntry} {clock : Nat} {kvs : List (Value × Value)} (S : MpS P k es clock kvs) : (kvs.map (·.1)).Nodup := by
  rw [← S.pairs, List.map_map]
  exact S.stamped.2.2
theorem pairs_uniq {kvs : List (Value × Value)} (hn : (kvs.map (·.1)).Nodup) {k v v' : Value} (h : (k, v) ∈ kvs) (h' : (k, v') ∈ kvs) : v = v' := by
  induction kvs with
  | nil => cases h
  | cons p l ih =>
    rw [List.map_cons] at hn
    obtain ⟨h1, h2⟩ := List.nodup_cons.1 hn
    rcases List.mem_cons.1 h with e | e
    · rcases List.mem_cons.1 h' with e' | e'
      · rw [← e] at e'; injection e' with _ e'; exact e'.symm
      · exact absurd (List.mem_map.2 ⟨_, e', by rw [← e]⟩) h1
    · rcases List.mem_cons.1 h' with e' | e'
      · exact absurd (List.mem_map.2 ⟨_, e, by rw [← e']⟩) h1
      · exact ih h2 e e'
theorem look_lab {W : World} {b : Nat} {es : Array MapEntry} {clock : Nat} {kvs : List (Value × Value)} (hb : W.heap[b]? = some (.map es clock)) (S : MpS Tryz.prog 9 es clock kvs) {key : ByteArray} (hk : key.size ≤ maxLen) {v : Value} (hm : (Value.string key, v) ∈ kvs) :
    (Instr.lookup 150 (.map (some b)) (.string key) false).run Tryz.prog W = .ok v W := by
  have hl := MpS.look strKey Tryz.underlying150 (z := .slice none 0 0) (fun u => by kernel_rfl) hb S (str_keyed key hk) false
  simp only [Bool.false_eq_true, if_false] at hl
  rcases hl with ⟨hno, _⟩ | ⟨v0, h0, hr⟩
  · exact absurd rfl (hno _ hm)
  · rw [pairs_uniq S.nodup hm h0]; exact hr
theorem look_smps {W : World} {b : Nat} {es : Array MapEntry} {clock : Nat} {kvs : List (Value × Value)} (hb : W.heap[b]? = some (.map es clock)) (S : MpS Tryz.prog 9 es clock kvs) {key : ByteArray} (hk : key.size ≤ maxLen) {v : Value} (hm : (Value.string key, v) ∈ kvs) :
    (Instr.lookup 153 (.map (some b)) (.string key) false).run Tryz.prog W = .ok v W := by
  have hl := MpS.look strKey Tryz.underlying153 (z := .slice none 0 0) (fun u => by kernel_rfl) hb S (str_keyed key hk) false
  simp only [Bool.false_eq_true, if_false] at hl
  rcases hl with ⟨hno, _⟩ | ⟨v0, h0, hr⟩
  · exact absurd rfl (hno _ hm)
  · rw [pairs_uniq S.nodup hm h0]; exact hr
/-- a map of peers where only a block of another kind changed -/
theorem PRows.only {w w' : World} {base hb : Nat} {kvs : List (Value × Value)} {ls : List (Nat × Nat)} {ps : List Peer} (h : PRows w base kvs ls ps) {cs : Array Value} (hk : Blk w hb 71 cs) (hb : ∀ q, q ≠ hb → w'.heap[q]? = w.heap[q]?) : PRows w' base kvs ls ps ∧ (ls.map fun l => footS w' l.2) = ls.map fun l => footS w l.2 := by
  induction h with
  | nil => exact ⟨.nil, rfl⟩
  | cons h1 _ ih =>
    obtain ⟨i1, i2⟩ := ih
    obtain ⟨s1, s2⟩ := h1.st.only hk (by unfold StKind; decide) (by decide) hb
    exact ⟨.cons ⟨blk_only hk h1.blk (by decide) hb, s1, h1.opb⟩ i1, by rw [List.map_cons, List.map_cons, i2, s2]⟩
theorem HsAt.become {w : World} {base hb mb : Nat} {A : Option Addr} {c : Nat} {L : List NodE} {es : Array MapEntry} {clock : Nat} {kvs : List (Value × Value)} {ls : List (Nat × Nat)} {h : Hse} (k : HsAt w base hb mb A c L es clock kvs ls h)
    {mb2 : Nat} {A2 : Option Addr} {c2 : Nat} {L2 : List NodE} {es2 : Array MapEntry} {clock2 : Nat} {kvs2 : List (Value × Value)} {ls2 : List (Nat × Nat)} {ps2 : List Peer} (hrow : w.ownsRow base 36 2 (.slice A2 L2.length c2) L2.length (nodCs L2)) (htk : ∀ e ∈ L2, TkOwn w base e) (hP : PMap w base mb2 es2 clock2 kvs2 ls2 ps2) {w' : World} (hw : w' = (w.setCell ⟨hb, 0, none⟩ (.slice A2 L2.length c2)).setCell ⟨hb, 4, none⟩ (.map (some mb2))) :
    HsAt w' base hb mb2 A2 c2 L2 es2 clock2 kvs2 ls2 { h with nodes := L2.map NodE.x, ps := ps2 } ∧ OutH base w w' ∧ (∀ q, q ≠ hb → w'.heap[q]? = w.heap[q]?) ∧ w'.heap.size = w.heap.size := by
  subst hw
  have hq : ∀ q, q ≠ hb → ((w.setCell ⟨hb, 0, none⟩ (.slice A2 L2.length c2)).setCell ⟨hb, 4, none⟩ (.map (some mb2))).heap[q]? = w.heap[q]? := fun q hq => (Below.heap_setCell _ ⟨hb, 4, none⟩ _ q hq).trans (Below.heap_setCell w ⟨hb, 0, none⟩ _ q hq)
  have hsz : ((w.setCell ⟨hb, 0, none⟩ (.slice A2 L2.length c2)).setCell ⟨hb, 4, none⟩ (.map (some mb2))).heap.size = w.heap.size := by rw [World.size_setCell, World.size_setCell]
  obtain ⟨p1, p2⟩ := hP.prs.only k.obj hq
  have hoh := k.oh
  refine ⟨⟨(k.obj.set 0 _).set 4 _, rfl, own_only k.obj hrow (by decide) hq, fun e he => ⟨own_only k.obj (htk e he).1 (by decide) hq, (htk e he).2⟩, ⟨(hq mb2 (fun e => by
      have h1 := blk_cells k.obj
      rw [← e, hP.mp] at h1
      cases h1)).trans hP.mp, hP.shape, p1, by rw [p2]; exact hP.apart, fun l hl hm => by
      have e := List.mem_map_of_mem (f := fun l : Nat × Nat => footS ((w.setCell ⟨hb, 0, none⟩ (.slice A2 L2.length c2)).setCell ⟨hb, 4, none⟩ (.map (some mb2))) l.2) hl
      rw [p2] at e
      obtain ⟨l0, hl0, he⟩ := List.mem_map.1 e
      rw [← he] at hm
      exact hP.mapart l0 hl0 hm, hP.om⟩, hoh⟩, ⟨rfl, rfl, rfl, Nat.le_of_eq hsz.symm, fun q hq2 => hq q (by omega), fun q cs t fr hq2 ht => hq q fun e => ?_⟩, hq, hsz⟩
  subst e
  have h1 := blk_cells k.obj
  rw [hq2] at h1
  injection h1 with h1
  injection h1 with _ h1
  exact ht (.inr (.inr h1))
/-- a row of what is had of a key -/
def SmpAt (h : Hse) (w : World) (B : Nat) (v : Value) (key : ByteArray) : Prop := ∃ A n c, v = .slice A n c ∧ (hadK h key).length = n ∧ w.ownsRow B 26 2 (.slice A n c) n (smpCs (hadK h key))
theorem SmpAt.cells {h : Hse} {w w' : World} {B : Nat} {v : Value} {key : ByteArray} (k : SmpAt h w B v key) (hc : CellsK w w') : SmpAt h w' B v key := by
  obtain ⟨A, n, c, h1, h2, h3⟩ := k
  exact ⟨A, n, c, h1, h2, hc.own h3⟩
theorem SmpAt.outH {h : Hse} {base : Nat} {w w' : World} {B : Nat} {v : Value} {key : ByteArray} (k : SmpAt h w B v key) (hc : OutH base w w') : SmpAt h w' B v key := by
  obtain ⟨A, n, c, h1, h2, h3⟩ := k
  exact ⟨A, n, c, h1, h2, hc.own h3 (by unfold HsKind StKind; decide)⟩
theorem LabAt.outH {base : Nat} {w w' : World} {B : Nat} {v : Value} {key : ByteArray} (k : LabAt w B v key) (hc : OutH base w w') : LabAt w' B v key := by
  obtain ⟨A, n, c, h1, h2, h3, h4⟩ := k
  exact ⟨A, n, c, h1, h2, hc.own h3 (by unfold HsKind StKind; decide), h4⟩
def BecP (base hb : Nat) (h : Hse) (w w' : World) : Prop := HsM w' base hb h ∧ OutH base w w'
set_option maxRecDepth 1000000 in
set_option maxHeartbeats 16000000 in
theorem hbecome_any (base hb mb : Nat) (NA : Option Addr) (nc : Nat) (NL : List NodE) (es : Array MapEntry) (clock : Nat) (kvs : List (Value × Value)) (ls : List (Nat × Nat)) (puts : List Pt) (h : Hse) (hI : HseI puts h) (hm : puts.length ≤ 22) (hr20 : h.read ≤ 20) (hw20 : h.write ≤ 20)
    (mb2 : Nat) (A2 : Option Addr) (n2 c2 : Nat) (NL2 : List NodE) (hn2 : NL2.length = n2) (es2 : Array MapEntry) (clock2 : Nat) (kvs2 : List (Value × Value)) (ls2 : List (Nat × Nat)) (ps2 : List Peer) (hI2 : HseI puts { h with nodes := NL2.map NodE.x, ps := ps2 })
    (w : World) (hh : HsAt w base hb mb NA nc NL es clock kvs ls h) (hbase : base ≤ w.heap.size) (hrow2 : w.ownsRow base 36 2 (.slice A2 n2 c2) n2 (nodCs NL2)) (htk2 : ∀ e ∈ NL2, TkOwn w base e) (hP2 : PMap w base mb2 es2 clock2 kvs2 ls2 ps2) (tS : SgAt w) (hsb : 0 < base) :
    Calls Tryz.prog 65 #[.pointer (some ⟨hb, 0, none⟩), .slice A2 n2 c2, .map (some mb2)] w (R1 (.int .i64 (becomeH h (NL2.map NodE.x) ps2).2) (BecP base hb (becomeH h (NL2.map NodE.x) ps2).1 w)) := by
  have hc20 : h.copies ≤ 20 := hI.cop
  have hK := Lib.hid (hkeys_any base hb mb NA nc NL es clock kvs ls puts h hI hm w hh tS)
  have hfew := keysH_few hI hm
  have hkput := Lib.hid (fun (key : ByteArray) (hk : key ∈ keysH h.ps) => show txL (labOf key) = key ∧ chkL (labOf key) = 0 ∧ key.size ≤ maxLen from by
    obtain ⟨p, hp, hk⟩ := keysH_mem.1 hk
    obtain ⟨h1, h2, _⟩ := hasKey_put hI hm hp hk
    refine ⟨h1, h2, ?_⟩
    have := txtB_size (chkM_asM h2)
    rw [← h1]
    unfold txL maxLen
    omega)
  obtain ⟨nodes2, hnodes2⟩ : ∃ nodes2, NL2.map NodE.x = nodes2 := ⟨_, rfl⟩
  rw [hnodes2] at hI2 ⊢
  have hGet := Lib.hid (fun (key : ByteArray) (hk : key.size ≤ maxLen) (w1 : World) (hb1 : Below w.heap.size w w1) => hget_any base hb mb NA nc NL es clock kvs ls puts h hI hm hr20 key hk w1 (hh.next hb1) (tS.next hb1))
  have hOwn := Lib.hid (fun (ps : List Peer) (k2 : HseI puts { h with nodes := nodes2, ps := ps }) (X U : Value) (key : ByteArray) (hk : key.size ≤ maxLen) (w1 : World) (ko : Blk w1 hb 71 #[X, .int .i64 h.copies, .int .i64 h.write, .int .i64 h.read, U]) (hr1 : w1.ownsRow base 36 2 (.slice A2 n2 c2) n2 (nodCs NL2)) (ht1 : ∀ e ∈ NL2, TkOwn w1 base e) (hP1 : PMap w1 base mb2 es2 clock2 kvs2 ls2 ps) => show Calls Tryz.prog 39 #[.pointer (some ⟨hb, 0, none⟩), .slice A2 n2 c2, .string key, .map (some mb2)] w1 (RV (OwnPs ((liveK nodes2 h.copies ps key).map (locOf ls2 ps)) w1)) from by
    have h1 := howners_any base hb X h.copies (.int .i64 h.write) (.int .i64 h.read) U hc20 A2 n2 c2 NL2 hn2 (Nat.le_trans (own_len hr1).1 (own_len hr1).2) (by rw [hnodes2]; exact k2.ring) key hk mb2 es2 clock2 kvs2 ls2 ps (by rw [hnodes2]; exact ownK_in k2.hse key) w1 ko (Has.of_own hr1) (fun e he => (ht1 e he).ok) hP1
    rw [hnodes2] at h1
    exact h1)
  have hbec : becomeH h nodes2 ps2 = if (keysH h.ps).all (staysB h nodes2 ps2) = true then ({ h with nodes := nodes2, ps := giveAll h nodes2 (keysH h.ps) ps2 }, 0) else (h, 13) := rfl
  obtain ⟨res, hres⟩ : ∃ res, becomeH h nodes2 ps2 = res := ⟨_, rfl⟩
  rw [hres] at hbec ⊢
  have Hbec := Lib.hid hbec
  have HI := Lib.hid hI
  have HI2 := Lib.hid hI2
  have Hm := Lib.hid hm
  have Hh := Lib.hid hh
  have Hbase := Lib.hid hbase
  have Hrow2 := Lib.hid hrow2
  have Htk2 := Lib.hid htk2
  have HP2 := Lib.hid hP2
  have HS := Lib.hid tS
  have Hn2 := Lib.hid hn2
  have Hnodes2 := Lib.hid hnodes2
  have hw3 : (h.write : Int) ≤ 20 := by omega
  clear hI hm hI2 hh hbase hrow2 htk2 hP2 tS hn2 hnodes2 hbec hres
  go_enter Tryz.func65, Tryz.ntmps65
  go_wp2_with fail
  refine hK.out.mono ?_
  rintro e w1 ⟨v, rfl, mo, es5, cl5, kvs5, rfl, hmo, hmp5, hS5, hK5, hb1⟩
  obtain ⟨ks, hks1, hks2⟩ := hK5.keys
  have hksn : ks.Nodup := by
    have h1 := hS5.nodup
    rw [hks1] at h1
    exact (List.pairwise_map.1 h1).imp fun h e => h (by rw [e])
  have hkeys := keysH_of hksn hks2
  have hkl : ks.length ≤ 22 := by rw [← sortK_len, hkeys]; exact hfew
  have hSo := sortedY_any hmp5 hS5 hks1 (by omega)
  obtain ⟨w2, hw2⟩ : ∃ w2, w1.alloc (.cells #[.map (some mo)] 150) = w2 := ⟨_, rfl⟩
  have hb12 : Below w1.heap.size w1 w2 := by rw [← hw2]; exact one_allocB _ _
  have hKs := keysY_any (some mo) w1
  rw [hw2] at hSo hKs
  have hSo := Lib.hid hSo
  have hKs := Lib.hid hKs
  have Hmp5 := Lib.hid hmp5
  have HS5 := Lib.hid hS5
  have HK5 := Lib.hid hK5
  have Hb1 := Lib.hid hb1
  have Hkeys := Lib.hid hkeys
  have Hmo := Lib.hid hmo
  have Hb12 := Lib.hid hb12
  clear hmp5 hS5 hK5 hb1 hks1 hks2 hksn hkeys hw2 hmo hb12 hK
  go_wp2_with fail
  refine hKs.out.mono ?_
  rintro e w9 ⟨rfl, rfl⟩
  go_wp2_with fail
  refine hSo.out.mono ?_
  rintro e w3 ⟨v, rfl, KA, m, kc, rfl, hkm, hoK, hb23⟩
  rw [Hkeys.out] at hoK
  obtain ⟨keys, hkeys⟩ : ∃ keys, keysH h.ps = keys := ⟨_, rfl⟩
  have hlenk : keys.length = m := by rw [← hkeys, ← Hkeys.out, sortK_len]; exact hkm
  rw [hkeys] at hoK hkput hfew Hbec
  have hm22 : m ≤ 22 := by rw [← hkm]; exact hkl
  obtain ⟨w4, hw4⟩ : ∃ w4, w3.alloc (.map #[] 0) = w4 := ⟨_, rfl⟩
  obtain ⟨md, hmd⟩ : ∃ md, w3.heap.size = md := ⟨_, rfl⟩
  have hmk : (Instr.makeMap 153 none).run Tryz.prog w3 = .ok (.map (some md)) w4 := by rw [← hmd, ← hw4]; kernel_rfl
  have hb34 : Below w3.heap.size w3 w4 := by rw [← hw4]; exact one_allocB _ _
  have hmd4 : w4.heap[md]? = some (.map #[] 0) := by rw [← hw4, ← hmd]; exact heap_alloc_new _ _
  have hb13 : Below w1.heap.size w1 w3 := bnext Hb12.out hb23
  have hb03 : Below w.heap.size w w3 := bnext Hb1.out hb13
  have hb04 := Lib.hid (bnext hb03 hb34)
  have hmp4 := Lib.hid ((hb34.block mo (Nat.lt_of_lt_of_le (Array.getElem?_eq_some_iff.1 Hmp5.out).1 hb13.size)).trans ((hb13.block mo (Array.getElem?_eq_some_iff.1 Hmp5.out).1).trans Hmp5.out))
  have hK4 := Lib.hid (HK5.out.mono (fun _ _ k => LabAt.cells k (CellsK.of (bnext hb13 hb34))) fun _ => Iff.rfl)
  have hoK4 := Lib.hid (own_next hoK hb34)
  have hmd4 := Lib.hid hmd4
  have Hmd := Lib.hid (show w.heap.size ≤ md ∧ md ≠ mo ∧ w.heap.size ≤ mo from ⟨by rw [← hmd]; exact hb03.size, fun e => by
    have h1 := (Array.getElem?_eq_some_iff.1 Hmp5.out).1
    have h2 := hb13.size
    omega, Hmo.out⟩)
  have Hlenk := Lib.hid hlenk
  have Hkk := Lib.hid (show ∀ k, k ∈ keys ↔ ∃ p ∈ h.ps, hasKey p k from fun k => by rw [← hkeys]; exact keysH_mem)
  clear hw4 hmd hb34 hb13 hb03 hoK hb23 hlenk hkm hkeys hkl hKs hSo HK5 Hmp5 hfew
  go_wp2_with fail
  go_loopw [24] (fun i wr => ∃ (j : Nat) (es6 : Array MapEntry) (cl6 : Nat) (kvs6 : List (Value × Value)), j ≤ m ∧ i = .int .i64 (j : Nat) ∧ Hid (∀ q, q < j → staysB h nodes2 ps2 (at_ keys q) = true) ∧ Hid (wr.heap[md]? = some (.map es6 cl6)) ∧ Hid (MpS Tryz.prog 9 es6 cl6 kvs6) ∧ Hid (KMap (SmpAt h wr w.heap.size) kvs6 (fun k => k ∈ keys.take j)) ∧ Hid (Below w.heap.size w wr) ∧ Hid (CellsK w4 wr) ∧ Hid (wr.heap[mo]? = some (.map es5 cl5))) (fun i _ => m + 5 - (intOf i).toNat)
  case atStart => exact ⟨0, #[], 0, [], by omega, rfl, Lib.hid (fun q hq => absurd hq (Nat.not_lt_zero q)), hmd4, Lib.hid (MpS.empty _ _ _), Lib.hid ((KMap.nil _).mono (fun _ _ h => h) fun k => by rw [List.take_zero]; exact ⟨fun h => h.elim, fun h => absurd h (List.not_mem_nil)⟩), hb04, Lib.hid (CellsK.refl _), hmp4⟩
  case round =>
    obtain ⟨j, es6, cl6, kvs6, hj, rfl, hst, hmd6, hS6, hK6, hbr, hcr, hmo6⟩ := hrel
    by_cases hjt : (j : Int) < (m : Int)
    · have hjk : j < keys.length := by rw [Hlenk.out]; omega
      obtain ⟨_, hchk, hksz⟩ := hkput.out _ (at_mem hjk)
      have hmem := at_mem hjk
      have htk := take_snoc hjk
      have hsnoc : ∀ (b : staysB h nodes2 ps2 (at_ keys j) = true), ∀ q, q < j + 1 → staysB h nodes2 ps2 (at_ keys q) = true := fun b q hq => by
        rcases Nat.lt_or_ge q j with h1 | h1
        · exact hst.out q h1
        · rw [show q = j by omega]; exact b
      obtain ⟨ad, rfl, _, c0⟩ := (Has.of_own (hcr.out.own hoK4.out)).at (strCs_atO hjk)
      obtain ⟨key, hkey⟩ : ∃ key, at_ keys j = key := ⟨_, rfl⟩
      rw [hkey] at hchk hksz hmem htk hsnoc c0
      have q0 : (0 : Int) ≤ (j : Int) := by omega
      have HG := hGet.out key hksz wr hbr.out
      have hno := Lib.hid (fun (b : staysB h nodes2 ps2 key = false) => show res = (h, 13) from by
        rw [Hbec.out, if_neg]
        intro h1
        rw [List.all_eq_true] at h1
        rw [h1 key hmem] at b
        cases b)
      have hsB : staysB h nodes2 ps2 key = ((getK h key).isSome && decide (h.write ≤ (liveK nodes2 h.copies ps2 key).length)) := rfl
      have hhad : hadK h key = (getK h key).getD [] := rfl
      have hOw := Lib.hid (fun (w8 : World) (hb8 : Below wr.heap.size wr w8) => hOwn.out ps2 HI2.out _ _ key hksz w8 (Hh.out.next (bnext hbr.out hb8)).obj (own_next Hrow2.out (bnext hbr.out hb8)) (fun e he => (Htk2.out e he).next (bnext hbr.out hb8)) (HP2.out.next (bnext hbr.out hb8)))
      have HBad := Lib.hid (fun (w8 : World) (hb8 : Below wr.heap.size wr w8) => show BecP base hb h w w8 from ⟨⟨_, _, _, _, _, _, _, _, Hh.out.next (bnext hbr.out hb8)⟩, OutH.of (bnext hbr.out hb8) Hbase.out⟩)
      have hlv := live_sub nodes2 h.copies ps2 key
      obtain ⟨r, hr⟩ : ∃ r, getK h key = r := ⟨_, rfl⟩
      obtain ⟨t, ht⟩ : ∃ t, (liveK nodes2 h.copies ps2 key).length = t := ⟨_, rfl⟩
      obtain ⟨lp, hlp⟩ : ∃ lp, (liveK nodes2 h.copies ps2 key).map (locOf ls2 ps2) = lp := ⟨_, rfl⟩
      have hlpt : lp.length = t := by rw [← hlp, List.length_map, ht]
      rw [ht] at hlv
      rw [hr, ht] at hsB
      rw [hr] at HG hhad
      rw [hlp] at hOw
      have HG := Lib.hid HG
      have HsB := Lib.hid hsB
      have Hsnoc := Lib.hid hsnoc
      have Hhad := Lib.hid hhad
      have Htk := Lib.hid htk
      have Hksz := Lib.hid hksz
      have Hlpt := Lib.hid hlpt
      clear hjk hchk hmem htk hsnoc hkey hr ht hlp hlpt hsB hhad hksz
      cases r with
      | none =>
        have hz := Lib.hid (hno.out (by rw [HsB.out]; rfl))
        go_wp2_with fail
        refine HG.out.mono ?_
        rintro e w8 ⟨v, rfl, rfl, hb8⟩
        have hb8 := Lib.hid hb8
        go_wp2_with fail
        go_ret
        rw [hz.out]
        exact R1.mk rfl (HBad.out w8 hb8.out)
      | some l =>
        go_wp2_with fail
        refine HG.out.mono ?_
        rintro e w8 ⟨v, rfl, LA, ln, lc, rfl, hll, hol, hb8⟩
        have Hll := Lib.hid hll
        have Hol := Lib.hid hol
        have o2 : w8.cell? ⟨hb, 2, none⟩ = some (.int .i64 h.write) := (Hh.out.next (bnext hbr.out hb8)).obj.cell 2
        have o2' := Lib.hid (fun (W : World) (hW : Below w8.heap.size w8 W) => show W.cell? ⟨hb, 2, none⟩ = some (.int .i64 h.write) from (hW.cell (p := ⟨hb, 2, none⟩) (World.block_lt_of_cell? w8 ⟨hb, 2, none⟩ o2)).trans o2)
        have hOw8 := Lib.hid (hOw.out (w8.drewN 1) (below_drewN hb8 1))
        have hb8 := Lib.hid hb8
        clear hll hol c0
        by_cases hfw : (t : Int) < (h.write : Int)
        · have hz := Lib.hid (hno.out (by rw [HsB.out]; simp; omega))
          go_upto_region 10 with fail
          go_region_held_law (fun w' => w'.cell? ⟨hb, 2, none⟩ = some (.int .i64 h.write))
            (first | exact o2'.out _ (Below.refl _ _) | exact o2'.out _ (below_drewN (Below.refl _ _) 1) | exact o2'.out _ (by assumption))
            (first
              | (go_at_call 39
                 refine (hOw8.out).mono ?_
                 rintro e w10 ⟨v, rfl, PA, pc, rfl, hoP, hb10⟩
                 rw [Hlpt.out]
                 have hb810 : Below w8.heap.size w8 w10 := bnext (below_drewN (Below.refl _ _) 1) hb10
                 clear hoP))
          all_goals
            have hb810 := Lib.hid hb810
            go_wp2_with fail
            go_ret
            rw [hz.out]
            exact R1.mk rfl (HBad.out _ (bnext hb8.out hb810.out))
        · have hz := Lib.hid (Hsnoc.out (by rw [HsB.out]; simp; omega))
          have hS8 := Lib.hid ((hb8.out.block mo (Array.getElem?_eq_some_iff.1 hmo6.out).1).trans hmo6.out)
          have hd8 := Lib.hid ((hb8.out.block md (Array.getElem?_eq_some_iff.1 hmd6.out).1).trans hmd6.out)
          go_upto_region 10 with fail
          go_region_held_law (fun w' => w'.cell? ⟨hb, 2, none⟩ = some (.int .i64 h.write))
            (first | exact o2'.out _ (Below.refl _ _) | exact o2'.out _ (below_drewN (Below.refl _ _) 1) | exact o2'.out _ (by assumption))
            (first
              | (go_at_call 39
                 refine (hOw8.out).mono ?_
                 rintro e w10 ⟨v, rfl, PA, pc, rfl, hoP, hb10⟩
                 rw [Hlpt.out]
                 have hb810 : Below w8.heap.size w8 w10 := bnext (below_drewN (Below.refl _ _) 1) hb10
                 clear hoP))
          all_goals
            have hb0 := bnext hb8.out hb810
            clear hb10 o2
            have hm10 := (hb0.block md (Array.getElem?_eq_some_iff.1 hmd6.out).1).trans hmd6.out
            obtain ⟨es', cl', kvs', hupd, hsh', hput⟩ := upd_shape (w := w10) strKey Tryz.underlying153 hm10 hS6.out (str_keyed key Hksz.out) (.slice LA ln lc)
            have hc11 : CellsK wr (setBlock w10 md (.map es' cl')) := (CellsK.of hb0).trans (CellsK.setBlock hm10)
            have hSmp : SmpAt h (setBlock w10 md (.map es' cl')) w.heap.size (.slice LA ln lc) key := ⟨LA, ln, lc, rfl, by rw [Hhad.out]; exact Hll.out, by rw [Hhad.out]; exact (CellsK.setBlock hm10).own (own_next (own_less Hol.out hbr.out.size) hb810)⟩
            have hK11 := Lib.hid (((hK6.out.mono (fun _ _ k => SmpAt.cells k hc11) fun _ => Iff.rfl).put hput hSmp).mono (fun _ _ h => h) (K' := fun k => k ∈ keys.take (j + 1)) fun k9 => by rw [Htk.out, List.mem_append, List.mem_singleton])
            have hm11 := Lib.hid (heap_setBlock_self (o := .map es' cl') (Array.getElem?_eq_some_iff.1 hm10).1)
            have hb11 := Lib.hid (below_setBlockG (bnext hbr.out hb0) Hmd.out.1 (.map es' cl'))
            have hmo11 := Lib.hid ((heap_setBlock (o := .map es' cl') (Ne.symm Hmd.out.2.1)).trans ((hb0.block mo (Array.getElem?_eq_some_iff.1 hmo6.out).1).trans hmo6.out))
            have hc11 := Lib.hid (hcr.out.trans hc11)
            have hsh' := Lib.hid hsh'
            obtain ⟨W11, hW11⟩ : ∃ W11, setBlock w10 md (.map es' cl') = W11 := ⟨_, rfl⟩
            rw [hW11] at hupd hK11 hm11 hb11 hmo11 hc11
            clear hW11 hSmp hput hb0 hm10
            go_wp2_with fail
            go_roundw
            case rel => exact ⟨j + 1, es', cl', kvs', by omega, by go_num, hz, hm11, hsh', hK11, hb11, hc11, hmo11⟩
            case measure => simp [intOf]; omega
    · obtain rfl : m = j := by omega
      have hall := Lib.hid (show res = ({ h with nodes := nodes2, ps := giveAll h nodes2 keys ps2 }, 0) from by
        rw [Hbec.out, if_pos]
        rw [List.all_eq_true]
        intro k hk
        obtain ⟨i, hi, e⟩ := List.getElem_of_mem hk
        have h1 := hst.out i (by rw [Hlenk.out] at hi; exact hi)
        rw [at_eq hi, e] at h1
        exact h1)
      have hKd := hK6.out
      rw [show keys.take m = keys by rw [← Hlenk.out, List.take_length]] at hKd
      obtain ⟨w5, rfl⟩ : ∃ w5, w5 = wr := ⟨_, rfl⟩
      have hh5 := Hh.out.next hbr.out
      have c0 : w5.cell? ⟨hb, 0, none⟩ = some (.slice NA NL.length nc) := hh5.obj.cell 0
      have c4 : w5.cell? ⟨hb, 4, none⟩ = some (.map (some mb)) := hh5.obj.cell 4
      have f0 : w5.frozen? ⟨hb, 0, none⟩ = false := hh5.obj.frozen 0
      have f4 : (w5.setCell ⟨hb, 0, none⟩ (.slice A2 n2 c2)).frozen? ⟨hb, 4, none⟩ = false := (hh5.obj.set 0 _).frozen 4
      have d4 : (w5.setCell ⟨hb, 0, none⟩ (.slice A2 n2 c2)).cell? ⟨hb, 4, none⟩ = some (.map (some mb)) := (hh5.obj.set 0 _).cell 4
      obtain ⟨W6, hW6⟩ : ∃ W6, (w5.setCell ⟨hb, 0, none⟩ (.slice A2 n2 c2)).setCell ⟨hb, 4, none⟩ (.map (some mb2)) = W6 := ⟨_, rfl⟩
      have hP5 := HP2.out.next hbr.out
      obtain ⟨s1, s2, s3, s4⟩ := hh5.become (w' := W6) (A2 := A2) (c2 := c2) (L2 := NL2) (by rw [Hn2.out]; exact own_next Hrow2.out hbr.out) (fun e he => (Htk2.out e he).next hbr.out) hP5 (by rw [Hn2.out]; exact hW6.symm)
      rw [Hnodes2.out] at s1
      have hmob : mo ≠ hb := fun e => by
        have h1 := blk_cells hh5.obj
        rw [← e, hmo6.out] at h1
        cases h1
      have hmdb : md ≠ hb := fun e => by
        have h1 := blk_cells hh5.obj
        rw [← e, hmd6.out] at h1
        cases h1
      have hft : ∀ q, w.heap.size ≤ q → ¬ Feet W6 ls2 q := fun q hq hf => by
        rw [feet_iff, (hP5.prs.only hh5.obj s3).2, ← feet_iff] at hf
        have h1 := (feet_next HP2.out.prs hbr.out hf).lt HP2.out.prs
        omega
      have hc6 : ∀ (q : Nat), q ≠ hb → W6.heap[q]? = w5.heap[q]? := s3
      have ho6 := Lib.hid ((OutH.of hbr.out Hbase.out).trans s2)
      have hh6 := Lib.hid s1
      have hmo7 := Lib.hid ((s3 mo hmob).trans hmo6.out)
      have hmd7 := Lib.hid ((s3 md hmdb).trans hmd6.out)
      have hnf6 := Lib.hid (show ¬ Feet W6 ls2 mo ∧ ¬ Feet W6 ls2 md from ⟨hft mo Hmd.out.2.2, hft md Hmd.out.1⟩)
      have hKl6 := Lib.hid (hK4.out.mono (fun _ _ k => LabAt.outH (LabAt.cells k hcr.out) s2) fun _ => Iff.rfl)
      have hKs6 := Lib.hid (hKd.mono (fun _ _ k => SmpAt.outH k s2) fun _ => Iff.rfl)
      have hok6 := Lib.hid (s2.own (hcr.out.own hoK4.out) (by unfold HsKind StKind; decide))
      clear hst hmd6 hK6 hcr hmo6 hKd hh5 hP5 s1 s2 s3 s4 hmob hmdb hft hc6 hb04 hmp4 hK4 hmd4
      go_upto_region 15 with fail
      (try rw [hW6])
      clear c0 c4 f0 f4 d4 hW6
      go_wp2_with fail
      go_loopw [62] (fun i wr => ∃ j : Nat, j ≤ m ∧ i = .int .i64 (j : Nat) ∧ Hid (HsAt wr base hb mb2 A2 c2 NL2 es2 clock2 kvs2 ls2 { h with nodes := nodes2, ps := giveAll h nodes2 (keys.take j) ps2 }) ∧ Hid (OutH base w wr) ∧ Hid (wr.heap[mo]? = some (.map es5 cl5)) ∧ Hid (wr.heap[md]? = some (.map es6 cl6)) ∧ Hid (¬ Feet wr ls2 mo ∧ ¬ Feet wr ls2 md) ∧ Hid (KMap (LabAt wr w.heap.size) kvs5 (fun key => ∃ p ∈ h.ps, hasKey p key)) ∧ Hid (KMap (SmpAt h wr w.heap.size) kvs6 (fun k => k ∈ keys)) ∧ Hid (wr.ownsRow w9.heap.size 9 1 (.slice KA m kc) m (strCs keys))) (fun i _ => m + 5 - (intOf i).toNat)
      case atStart => exact ⟨0, by omega, rfl, Lib.hid (by rw [List.take_zero]; exact hh6.out), ho6, hmo7, hmd7, hnf6, hKl6, hKs6, hok6⟩
      case round =>
        clear hh6 ho6 hmo7 hmd7 hnf6 hKl6 hKs6 hok6
        obtain ⟨j, hj, rfl, hhj, hoj, hmo, hmd, hnf, hKl, hKs, hokj⟩ := hrel
        by_cases hjt : (j : Int) < (m : Int)
        · have hjk : j < keys.length := by rw [Hlenk.out]; omega
          obtain ⟨htxk, hchk, hksz⟩ := hkput.out _ (at_mem hjk)
          have hmem := at_mem hjk
          have htake := giveAll_take h nodes2 ps2 hjk
          obtain ⟨ad, rfl, _, c0⟩ := (Has.of_own hokj.out).at (strCs_atO hjk)
          obtain ⟨key, hkey⟩ : ∃ key, at_ keys j = key := ⟨_, rfl⟩
          rw [hkey] at htxk hchk hksz hmem htake c0
          have q0 : (0 : Int) ≤ (j : Int) := by omega
          obtain ⟨v1, hv1⟩ := hKl.out.2 key ((Hkk.out key).1 hmem)
          obtain ⟨⟨A1, n1, c1, rfl, hl1, ho1, _⟩, _⟩ := hKl.out.at hv1
          obtain ⟨v3, hv3⟩ := hKs.out.2 key hmem
          obtain ⟨⟨A3, n3, c3, rfl, hl3, ho3⟩, _⟩ := hKs.out.at hv3
          have hLk := fun (W : World) (h1 : W.heap[mo]? = some (.map es5 cl5)) (h2 : W.heap[md]? = some (.map es6 cl6)) => show (Instr.lookup 150 (.map (some mo)) (.string key) false).run Tryz.prog W = .ok (.slice A1 n1 c1) W ∧ (Instr.lookup 153 (.map (some md)) (.string key) false).run Tryz.prog W = .ok (.slice A3 n3 c3) W from ⟨look_lab h1 HS5.out hksz hv1, look_smps h2 hS6.out hksz hv3⟩
          have hIj := giveAll_sub HI.out Hm.out nodes2 (keys.take j) ps2 HI2.out
          obtain ⟨Pj, hPj⟩ : ∃ Pj, giveAll h nodes2 (keys.take j) ps2 = Pj := ⟨_, rfl⟩
          rw [hPj] at hIj htake
          rw [hPj] at hhj
          have hnd := liveK_nodup nodes2 h.copies Pj key
          have hfd := liveK_find hIj.hse key
          have hfd : ∀ nm ∈ liveK nodes2 h.copies Pj key, ∃ p, findP Pj nm = some p ∧ p ∈ Pj := hfd
          have hlen := live_sub nodes2 h.copies Pj key
          have hOw := fun (w8 : World) (hb8 : Below wr.heap.size wr w8) => hOwn.out Pj hIj (.slice A2 NL2.length c2) (.map (some mb2)) key hksz w8 (hhj.out.next hb8).obj (by have := (hhj.out.next hb8).row; rw [Hn2.out] at this; exact this) (hhj.out.next hb8).tks (hhj.out.next hb8).peers
          obtain ⟨names, hnames⟩ : ∃ names, liveK nodes2 h.copies Pj key = names := ⟨_, rfl⟩
          rw [hnames] at hnd hfd hlen hOw htake
          obtain ⟨t, ht⟩ : ∃ t, names.length = t := ⟨_, rfl⟩
          have hpr := hadK_row HI.out Hm.out key
          have hkw : ∀ W, OutH base wr W → base ≤ W.heap.size := fun W hW => Nat.le_trans Hbase.out (Nat.le_trans hoj.out.size hW.size)
          have HGv := Lib.hid (fun (w3 : World) (hb3 : Below wr.heap.size wr w3) (PA : Option Addr) (pc bP : Nat) (hoP : w3.ownsRow bP 72 1 (.slice PA t pc) t (ptrCs (names.map (locOf ls2 Pj)))) =>
            give_any base hb mb2 A2 c2 NL2 es2 clock2 kvs2 ls2 puts { h with nodes := nodes2, ps := Pj } hIj Hm.out names hnd (fun nm hm => by obtain ⟨p, hp, _⟩ := hfd nm hm; exact ⟨p, hp⟩) t ht (by omega) PA pc bP A1 n1 c1 (labOf key) hl1 hchk (fun e => by subst e; exact own_nil ho1) A3 n3 c3 (hadK h key) hl3 hpr w3 (hhj.out.next hb3) (Nat.le_trans Hbase.out (Nat.le_trans hoj.out.size hb3.size)) hoP
              (fun w' hO => Has.of_own (hO.own (own_next ho1 hb3) (by unfold HsKind StKind; decide))) (fun w' hO => Has.of_own (hO.own (own_next ho3 hb3) (by unfold HsKind StKind; decide))) ((hoj.out.signs HS.out hsb).next hb3) hsb)
          obtain ⟨lp, hlp⟩ : ∃ lp, names.map (locOf ls2 Pj) = lp := ⟨_, rfl⟩
          rw [hlp] at hOw HGv
          have hlpt : lp.length = t := by rw [← hlp, List.length_map, ht]
          obtain ⟨Pn, hPn⟩ : ∃ Pn, giveTo Pj names (labOf key) (hadK h key) = Pn := ⟨_, rfl⟩
          rw [hPn] at htake
          have HGv : Hid (∀ (w3 : World), Below wr.heap.size wr w3 → ∀ (PA : Option Addr) (pc bP : Nat), w3.ownsRow bP 72 1 (.slice PA t pc) t (ptrCs lp) → Calls Tryz.prog 56 #[.slice PA t pc, .slice A1 n1 c1, .slice A3 n3 c3] w3 (R1 (.tuple #[]) (GiveP base hb mb2 A2 c2 NL2 es2 clock2 kvs2 ls2 { h with nodes := nodes2, ps := Pn } w3))) := Lib.hid (fun w3 hb3 PA pc bP hoP => by
            have h1 := HGv.out w3 hb3 PA pc bP hoP
            rw [show ({ ({ h with nodes := nodes2, ps := Pj } : Hse) with ps := giveTo ({ h with nodes := nodes2, ps := Pj } : Hse).ps names (labOf key) (hadK h key) } : Hse) = { h with nodes := nodes2, ps := Pn } from by rw [← hPn]] at h1
            exact h1)
          have hrun0 := Lib.hid (hLk wr hmo.out hmd.out)
          have hrun1 := Lib.hid (hLk (wr.drewN 1) hmo.out hmd.out)
          have HLk := Lib.hid hLk
          have hOw1 := Lib.hid (hOw (wr.drewN 1) (below_drewN (Below.refl _ _) 1))
          have Htake := Lib.hid htake
          have Hlpt := Lib.hid hlpt
          have Hafter := Lib.hid (fun (w3 w8 : World) (hb3 : Below wr.heap.size wr w3) (hP8 : GiveP base hb mb2 A2 c2 NL2 es2 clock2 kvs2 ls2 { h with nodes := nodes2, ps := Pn } w3 w8) => show Hid (HsAt w8 base hb mb2 A2 c2 NL2 es2 clock2 kvs2 ls2 { h with nodes := nodes2, ps := giveAll h nodes2 (keys.take (j + 1)) ps2 }) ∧ Hid (OutH base w w8) ∧ Hid (w8.heap[mo]? = some (.map es5 cl5)) ∧ Hid (w8.heap[md]? = some (.map es6 cl6)) ∧ Hid (¬ Feet w8 ls2 mo ∧ ¬ Feet w8 ls2 md) ∧ Hid (KMap (LabAt w8 w.heap.size) kvs5 (fun key => ∃ p ∈ h.ps, hasKey p key)) ∧ Hid (KMap (SmpAt h w8 w.heap.size) kvs6 (fun k => k ∈ keys)) ∧ Hid (w8.ownsRow w9.heap.size 9 1 (.slice (some ad) m kc) m (strCs keys)) from by
            obtain ⟨g1, g2, g3⟩ := hP8
            have hbb : base ≤ wr.heap.size := Nat.le_trans Hbase.out hoj.out.size
            have hO3 : OutH base wr w8 := (OutH.of hb3 hbb).trans g2
            have hF3 : OutF ls2 wr w8 := (OutF.of hhj.out.peers.prs hb3).trans g3
            refine ⟨Lib.hid (by rw [Htake.out]; exact g1), Lib.hid (hoj.out.trans hO3), Lib.hid ((hF3.block mo (Array.getElem?_eq_some_iff.1 hmo.out).1 hnf.out.1).trans hmo.out), Lib.hid ((hF3.block md (Array.getElem?_eq_some_iff.1 hmd.out).1 hnf.out.2).trans hmd.out),
              Lib.hid ⟨hF3.apart (Array.getElem?_eq_some_iff.1 hmo.out).1 hnf.out.1, hF3.apart (Array.getElem?_eq_some_iff.1 hmd.out).1 hnf.out.2⟩, Lib.hid (hKl.out.mono (fun _ _ k => LabAt.outH k hO3) fun _ => Iff.rfl), Lib.hid (hKs.out.mono (fun _ _ k => SmpAt.outH k hO3) fun _ => Iff.rfl), Lib.hid (hO3.own hokj.out (by unfold HsKind StKind; decide))⟩)
          have Hmb := Lib.hid (show ∀ W, Below wr.heap.size wr W → W.heap[mo]? = some (.map es5 cl5) ∧ W.heap[md]? = some (.map es6 cl6) from fun W hW => ⟨(hW.block mo (Array.getElem?_eq_some_iff.1 hmo.out).1).trans hmo.out, (hW.block md (Array.getElem?_eq_some_iff.1 hmd.out).1).trans hmd.out⟩)
          clear hjk htxk hchk hksz hmem htake hkey hv1 hl1 ho1 hv3 hl3 ho3 hLk hIj hPj hhj hnd hfd hlen hOw hnames ht hpr hkw hlp hlpt hPn hmo hmd hnf hKl hKs hokj
          go_upto_region 18 with fail
          go_region_held_law (fun w' => (Instr.lookup 150 (.map (some mo)) (.string key) false).run Tryz.prog w' = .ok (.slice A1 n1 c1) w' ∧ (Instr.lookup 153 (.map (some md)) (.string key) false).run Tryz.prog w' = .ok (.slice A3 n3 c3) w')
            (first | exact hrun0.out | exact hrun1.out | exact hrun8 | exact hrun3)
            (first
              | (have hz := hb13
                 go_at_call 56
                 refine (HGv.out w3 hb13 PA pc _ hoP).mono ?_
                 rintro e w8 ⟨rfl, hP8⟩
                 have hA8 := Hafter.out w3 w8 hb13 hP8
                 have hrun8 := HLk.out w8 hA8.2.2.1.out hA8.2.2.2.1.out)
              | (go_at_call 39
                 refine (hOw1.out).mono ?_
                 rintro e w3 ⟨v, rfl, PA, pc, rfl, hoP, hb3⟩
                 rw [Hlpt.out] at hoP ⊢
                 have hb13 : Below wr.heap.size wr w3 := bnext (below_drewN (Below.refl _ _) 1) hb3
                 have hrun3 := HLk.out w3 (Hmb.out w3 hb13).1 (Hmb.out w3 hb13).2))
          all_goals
            have hA8 := Lib.hid hA8
            clear hP8 hrun8 hrun3 hoP hb3 hb13
            go_wp2_with fail
            go_roundw
            case rel => exact ⟨j + 1, by omega, by go_num, hA8.out⟩
            case measure => simp [intOf]; omega
        · obtain rfl : m = j := by omega
          have hz := hhj.out
          rw [show keys.take m = keys by rw [← Hlenk.out, List.take_length]] at hz
          have hz := Lib.hid hz
          go_wp2_with fail
          go_ret
          rw [hall.out]
          exact R1.mk rfl ⟨⟨_, _, _, _, _, _, _, _, hz.out⟩, hoj.out⟩
end Go.Proofs.YtihjgbhnlejhfaaGreatDoor
namespace Go.Proofs.YtihjgbhnlejhfaaGreatDoor
open Go.Sort

def joinS (st : StD) (y : Ser) : StD := match findSt st (txL y.1) with | none => putSt st (txL y.1) y | some y0 => putSt st (txL y.1) (y0.1, mergeUp y0.2 y.2)
/-- the series of a node, if it is up -/
def serOf (ps : List Peer) (nm : ByteArray) : List Ser := match findP ps nm with | none => [] | some p => if p.up = true then allN p.st else []
def gatherH (ps : List Peer) (names : List ByteArray) : StD := names.foldl (fun st nm => (serOf ps nm).foldl joinS st) []
def allH (h : Hse) : List Ser := allN (gatherH h.ps (h.nodes.map fun x : Nod => x.nm))
/-- a series of a house: good labels, samples in order that were put -/
def SerPut (puts : List Pt) (y : Ser) : Prop := chkL y.1 = 0 ∧ PutRow puts y.1 y.2 ∧ y.2 ≠ []
structure Gath (puts : List Pt) (st : StD) : Prop where
  ent : ∀ p ∈ st, p.1 = txL p.2.1 ∧ SerPut puts p.2
  keys : (st.map (·.1)).Nodup
theorem Gath.nil (puts : List Pt) : Gath puts [] := ⟨fun _ h => absurd h (List.not_mem_nil), List.nodup_nil⟩
theorem merge_row {puts : List Pt} {L : List Lab} {a b : List Smp} (ha : PutRow puts L a) (hb : PutRow puts L b) : PutRow puts L (mergeUp a b) := by
  have hu := merge_up a b ha.up hb.up
  refine ⟨hu, fun x hx => ?_⟩
  have h1 := look_of_mem hu hx
  rw [look_merge a b ha.up hb.up] at h1
  rcases join_some h1 with e | e
  · have := mem_of_look e
    exact ha.mem _ (by cases x; exact this)
  · have := mem_of_look e
    exact hb.mem _ (by cases x; exact this)
theorem merge_ne {a b : List Smp} (ha : Up a) (hb : Up b) (h : a ≠ []) : mergeUp a b ≠ [] := fun e => by
  obtain ⟨t, ht⟩ := look_head h
  cases h1 : look a t with
  | none => exact ht h1
  | some v =>
    obtain ⟨u, h2, _⟩ := join_ge (b := look b t) (.inl h1)
    rw [← look_merge a b ha hb, e] at h2
    cases h2
theorem Gath.find {puts : List Pt} {st : StD} (g : Gath puts st) {k : ByteArray} {y : Ser} (h : findSt st k = some y) : k = txL y.1 ∧ SerPut puts y := g.ent _ (find_mem h)
theorem Gath.add1 {puts : List Pt} {st : StD} (g : Gath puts st) {y : Ser} (hy : SerPut puts y) : Gath puts (joinS st y) := by
  unfold joinS
  cases hf : findSt st (txL y.1) with
  | none =>
    refine ⟨fun p hp => ?_, put_nodup g.keys _ _⟩
    rcases put_mem hp with e | e
    · rw [e]; exact ⟨rfl, hy⟩
    · exact g.ent p e
  | some y0 =>
    obtain ⟨h1, h2, h3, h4⟩ := g.find hf
    have hL : y.1 = y0.1 := txL_inj hy.1 h2 h1
    refine ⟨fun p hp => ?_, put_nodup g.keys _ _⟩
    rcases put_mem hp with e | e
    · rw [e]
      refine ⟨h1, h2, ?_, merge_ne h3.up hy.2.1.up h4⟩
      have h5 := hy.2.1
      rw [hL] at h5
      exact merge_row h3 h5
    · exact g.ent p e
theorem lookSt_put (st : StD) (k k' : ByteArray) (y : Ser) (t : Int) : lookSt (putSt st k y) k' t = if k = k' then look y.2 t else lookSt st k' t := by
  unfold lookSt
  rw [find_put]
  by_cases h : k = k'
  · rw [if_pos h, if_pos h]
  · rw [if_neg h, if_neg h]
theorem Gath.lookN {puts : List Pt} {st : StD} (g : Gath puts st) {y : Ser} (hy : SerPut puts y) (k : ByteArray) (t : Int) : lookSt (joinS st y) k t = if txL y.1 = k then join (lookSt st k t) (look y.2 t) else lookSt st k t := by
  unfold joinS
  cases hf : findSt st (txL y.1) with
  | none =>
    rw [lookSt_put]
    by_cases h : txL y.1 = k
    · rw [if_pos h, if_pos h]
      unfold lookSt
      rw [← h, hf]
      rfl
    · rw [if_neg h, if_neg h]
  | some y0 =>
    rw [lookSt_put]
    by_cases h : txL y.1 = k
    · rw [if_pos h, if_pos h]
      obtain ⟨_, _, h3, _⟩ := g.find hf
      show look (mergeUp y0.2 y.2) t = _
      rw [look_merge _ _ h3.up hy.2.1.up]
      unfold lookSt
      rw [← h, hf]
    · rw [if_neg h, if_neg h]
theorem Gath.adds {puts : List Pt} : ∀ (l : List Ser) {st : StD}, Gath puts st → (∀ y ∈ l, SerPut puts y) → Gath puts (l.foldl joinS st)
  | [], _, g, _ => g
  | y :: l, _, g, h => Gath.adds l (g.add1 (h y List.mem_cons_self)) fun z hz => h z (List.mem_cons_of_mem _ hz)
/-- a peer's series were put -/
theorem peer_put {puts : List Pt} {h : Hse} (k : HseI puts h) (hm : puts.length ≤ 22) {p : Peer} (hp : p ∈ h.ps) : ∀ y ∈ allN p.st, SerPut puts y := by
  intro y hy
  obtain ⟨j, hj, e⟩ := List.getElem_of_mem hy
  have hpk := k.peer hm hp
  obtain ⟨key, h1, h2, h3⟩ := allN_at hpk.ok hj
  rw [at_eq hj, e] at h1 h2 h3
  obtain ⟨_, _, h4, h5, _⟩ := hpk.ok.inv.ent _ (find_mem h1)
  refine ⟨h3, ⟨h4, fun x hx => ?_⟩, h5⟩
  have h6 : hasK p key = y.2 := by unfold hasK; rw [h1]
  have h7 := look_of_mem h4 hx
  rw [show (key, y).2.2 = y.2 from rfl, ← h6, hasK_look] at h7
  rcases peer_top (fun q hq => (k.ok q ((k.sub p hp).mem hq)).2) key x.t with ⟨e2, _⟩ | ⟨u, e2, ⟨q, hq, ⟨g1, g2, g3⟩, g4⟩, _⟩
  · rw [e2] at h7; cases h7
  · rw [e2] at h7
    injection h7 with h7
    obtain ⟨L, z⟩ := q
    have hL : L = y.1 := txL_inj (okP_chk g1) h3 (by rw [← h2]; exact g2)
    have hz : z = x := by cases z; cases x; simp only [] at g3 g4 h7; rw [g3, g4, h7]
    rw [← hL, ← hz]
    exact (k.sub p hp).mem hq
theorem serOf_put {puts : List Pt} {h : Hse} (k : HseI puts h) (hm : puts.length ≤ 22) (nm : ByteArray) : ∀ y ∈ serOf h.ps nm, SerPut puts y := by
  unfold serOf
  cases hf : findP h.ps nm with
  | none => intro y hy; exact absurd hy (List.not_mem_nil)
  | some p =>
    simp only []
    split
    · exact peer_put k hm (findP_mem hf).1
    · intro y hy; exact absurd hy (List.not_mem_nil)
theorem gather_ok {puts : List Pt} {h : Hse} (k : HseI puts h) (hm : puts.length ≤ 22) (names : List ByteArray) : Gath puts (gatherH h.ps names) := by
  have h1 : ∀ (names : List ByteArray) (st : StD), Gath puts st → Gath puts (names.foldl (fun st nm => (serOf h.ps nm).foldl joinS st) st) := by
    intro names
    induction names with
    | nil => intro st g; exact g
    | cons nm names ih => intro st g; exact ih _ (g.adds _ (serOf_put k hm nm))
  exact h1 names [] (Gath.nil puts)
theorem gather_snoc (ps : List Peer) (names : List ByteArray) (nm : ByteArray) : gatherH ps (names ++ [nm]) = (serOf ps nm).foldl joinS (gatherH ps names) := by
  unfold gatherH
  rw [List.foldl_append]
  rfl
/-- few series, each with few samples -/
theorem Gath.few {puts : List Pt} {st : StD} (g : Gath puts st) (ho : ∀ q ∈ puts, okP q ∧ SmpIn q.2) : st.length ≤ puts.length ∧ ∀ p ∈ st, p.2.2.length ≤ puts.length := by
  refine ⟨?_, fun p hp => (g.ent p hp).2.2.1.few ho⟩
  have h1 : (st.map (·.1)).length ≤ (puts.map fun q : Pt => txL q.1).length := nodup_le g.keys fun k hk => by
    obtain ⟨p, hp, rfl⟩ := List.mem_map.1 hk
    obtain ⟨e, _, h2, h3⟩ := g.ent p hp
    cases hl : p.2.2 with
    | nil => exact absurd hl h3
    | cons x l =>
      have h4 := h2.mem x (by rw [hl]; exact List.mem_cons_self)
      exact List.mem_map.2 ⟨_, h4, e.symm⟩
  rw [List.length_map, List.length_map] at h1
  exact h1
end Go.Proofs.YtihjgbhnlejhfaaGreatDoor
