/- Texts of the proof of HouseAcks, joined (by merge.py). Conditions: each theorem's own hypotheses. -/
import Derived.Test.YtihjgbhnlejhfaaGreatDoorHouseAcksP40
namespace Go.Proofs.YtihjgbhnlejhfaaGreatDoor
open Go.RowKit Go.ChangeMaps

theorem i64_keyed : Go.Maps.Keyed Tryz.prog 2 := Go.Maps.int_keyed Tryz.underlying2
theorem i64_key {a : Int} (h : in64 a) : keyOf Tryz.prog 2 (.int .i64 a) = some (.int .i64 a) := Go.Maps.keyOf_int_mk Tryz.underlying2 (by
  obtain ⟨h1, h2⟩ := h
  simp only [Lit.wf, Bool.and_eq_true, decide_eq_true_eq]
  exact ⟨h1, h2⟩)
def smpKV (l : List Smp) : List (Value × Value) := l.map fun x : Smp => (Value.int .i64 x.t, Value.int .i64 x.v)
theorem smpKV_snoc (l : List Smp) (x : Smp) : smpKV (l ++ [x]) = smpKV l ++ [(Value.int .i64 x.t, Value.int .i64 x.v)] := by unfold smpKV; rw [List.map_append]; rfl
theorem upd_smp {W : World} {b : Nat} {es : Array MapEntry} {clock : Nat} {l : List Smp} {x : Smp} (hb : W.heap[b]? = some (.map es clock)) (S : MpS Tryz.prog 2 es clock (smpKV l)) (hx : in64 x.t) (hn : ∀ y ∈ l, y.t ≠ x.t) :
    ∃ es' clock', (Instr.mapUpdate 140 (.map (some b)) (.int .i64 x.t) (.int .i64 x.v)).run Tryz.prog W = .ok () (setBlock W b (.map es' clock')) ∧ MpS Tryz.prog 2 es' clock' (smpKV (l ++ [x])) := by
  obtain ⟨es', clock', kvs', h1, h2, h3⟩ := updF i64_keyed Tryz.underlying140 hb S (i64_key hx) (.int .i64 x.v)
  refine ⟨es', clock', h1, ?_⟩
  rcases h3 with ⟨pre, v, post, e, _⟩ | ⟨_, e⟩
  · exfalso
    have hm : (Value.int .i64 x.t, v) ∈ smpKV l := by rw [e]; simp
    obtain ⟨y, hy, e2⟩ := List.mem_map.1 hm
    injection e2 with e2
    injection e2 with _ e2
    exact hn y hy e2
  · rw [smpKV_snoc, ← e]; exact h2
theorem below_setBlockG {B : Nat} {a W : World} (h : Below B a W) {b : Nat} (hb : B ≤ b) (o : Obj) : Below B a (setBlock W b o) :=
  ⟨h.os, h.tape, h.output, by unfold setBlock; simpa using h.size, fun k hk => (heap_setBlock (fun e => by omega)).trans (h.block k hk)⟩
theorem feet_next {w w' : World} {base : Nat} {kvs : List (Value × Value)} {ls : List (Nat × Nat)} {ps : List Peer} (h : PRows w base kvs ls ps) (hb : Below w.heap.size w w') {q : Nat} (hq : Feet w' ls q) : Feet w ls q := by
  rw [feet_iff, h.foots hb, ← feet_iff] at hq
  exact hq
theorem look_smp {W : World} {b : Nat} {es : Array MapEntry} {clock : Nat} {l : List Smp} {t : Int} (hb : W.heap[b]? = some (.map es clock)) (S : MpS Tryz.prog 2 es clock (smpKV l)) (hu : Up l) (ht : in64 t) :
    (look l t = none ∧ (Instr.lookup 140 (.map (some b)) (.int .i64 t) true).run Tryz.prog W = .ok (.tuple #[.int .i64 0, .bool false]) W) ∨
    ∃ v, look l t = some v ∧ (Instr.lookup 140 (.map (some b)) (.int .i64 t) true).run Tryz.prog W = .ok (.tuple #[.int .i64 v, .bool true]) W := by
  have hl := MpS.lookF i64_keyed Tryz.underlying140 (z := .int .i64 0) (fun u => by kernel_rfl) hb S (i64_key ht) true
  simp only [if_true] at hl
  rcases hl with ⟨hno, hr⟩ | ⟨v0, hm, hr⟩
  · refine .inl ⟨?_, hr⟩
    cases h : look l t with
    | none => rfl
    | some v => exact absurd rfl (hno _ (List.mem_map.2 ⟨_, mem_of_look h, rfl⟩))
  · obtain ⟨y, hy, e⟩ := List.mem_map.1 hm
    injection e with e1 e2
    injection e1 with _ e1
    subst e2
    exact .inr ⟨y.v, by rw [← e1]; exact look_of_mem hu hy, hr⟩
theorem find_setP {ps : List Peer} {a p0 : Peer} (h : findP ps a.nm = some p0) : findP (setP ps a) a.nm = some a := by
  unfold findP setP at *
  induction ps with
  | nil => cases h
  | cons r ps ih =>
    rw [List.find?_cons] at h
    rw [List.map_cons, List.find?_cons]
    by_cases e : r.nm = a.nm
    · rw [if_pos e, decide_eq_true rfl]
    · rw [decide_eq_false e] at h
      rw [if_neg e, decide_eq_false e]
      exact ih h
theorem take_nodup_not {l : List ByteArray} (hn : l.Nodup) {j : Nat} (hj : j < l.length) : at_ l j ∉ l.take j := fun hmem => by
  obtain ⟨i, hi, ei⟩ := List.getElem_of_mem hmem
  rw [List.length_take] at hi
  rw [List.getElem_take, at_eq hj] at ei
  exact List.pairwise_iff_getElem.1 hn i j (by omega) hj (by omega) ei
theorem take_snoc {α : Type} [Inhabited α] {l : List α} {j : Nat} (hj : j < l.length) : l.take (j + 1) = l.take j ++ [at_ l j] := by rw [List.take_add_one, List.getElem?_eq_getElem hj, at_eq hj]; rfl
theorem up_take {l : List Smp} (h : Up l) (k : Nat) : Up (l.take k) := List.Pairwise.sublist (List.take_sublist k l) h
theorem up_at {l : List Smp} (h : Up l) {k : Nat} (hk : k < l.length) : ∀ y ∈ l.take k, y.t ≠ (at_ l k).t := fun y hy e => by
  obtain ⟨i, hi, ei⟩ := List.getElem_of_mem hy
  rw [List.length_take] at hi
  rw [List.getElem_take] at ei
  have := List.pairwise_iff_getElem.1 h i k (by omega) hk (by omega)
  rw [at_eq hk] at e
  rw [ei] at this
  omega
/-- what give leaves -/
def GiveP (base hb mb : Nat) (A : Option Addr) (c : Nat) (L : List NodE) (es : Array MapEntry) (clock : Nat) (kvs : List (Value × Value)) (ls : List (Nat × Nat)) (h : Hse) (w w' : World) : Prop := HsAt w' base hb mb A c L es clock kvs ls h ∧ OutH base w w' ∧ OutF ls w w'
/-- a peer that was given some of what it lacks is still one with few puts -/
theorem gave_ok {puts : List Pt} {h : Hse} (k : HseI puts h) (hm : puts.length ≤ 22) {p : Peer} (hp : p ∈ h.ps) {L : List Lab} {all : List Smp} (hr : PutRow puts L all) (i : Nat) : PeerOk (p.gave L (lacks (hasK p (txL L)) (all.take i))) := by
  have h1 := give_sub (k.sub p hp) k.ok (L := L) (all.take i) (up_take hr.up i) (fun x hx => hr.mem x (List.mem_of_mem_take hx)) p.qs (k.sub p hp) (fun q hq hn => absurd hq hn) fun q hq => hq
  exact ⟨Nat.le_trans h1.len hm, fun q hq => (k.ok q (h1.mem hq)).2⟩
set_option maxRecDepth 1000000 in
set_option maxHeartbeats 8000000 in
theorem give_any (base hb mb : Nat) (NA : Option Addr) (nc : Nat) (NL : List NodE) (es : Array MapEntry) (clock : Nat) (kvs : List (Value × Value)) (ls : List (Nat × Nat)) (puts : List Pt) (h : Hse) (hI : HseI puts h) (hm : puts.length ≤ 22)
    (names : List ByteArray) (hnd : names.Nodup) (hnm : ∀ nm ∈ names, ∃ p, findP h.ps nm = some p) (t : Nat) (ht : names.length = t) (ht20 : t ≤ 20) (PA : Option Addr) (pc bP : Nat)
    (A : Option Addr) (n c : Nat) (L : List Lab) (hn : L.length = n) (hchk : chkL L = 0) (hA : A = none → n = 0 ∧ c = 0) (A2 : Option Addr) (n2 c2 : Nat) (all : List Smp) (hn2 : all.length = n2) (hrow : PutRow puts L all)
    (w : World) (hh : HsAt w base hb mb NA nc NL es clock kvs ls h) (hbase : base ≤ w.heap.size) (hoP : w.ownsRow bP 72 1 (.slice PA t pc) t (ptrCs (names.map (locOf ls h.ps))))
    (hL : ∀ w', OutH base w w' → Has w' w'.heap.size A (labCs L)) (hAll : ∀ w', OutH base w w' → Has w' w'.heap.size A2 (smpCs all)) (tS : SgAt w) (hsb : 0 < base) :
    Calls Tryz.prog 56 #[.slice PA t pc, .slice A n c, .slice A2 n2 c2] w (R1 (.tuple #[]) (GiveP base hb mb NA nc NL es clock kvs ls { h with ps := giveTo h.ps names L all } w)) := by
  obtain ⟨hL10, hLab⟩ := chkL_ok hchk
  have htx : textN L = (txL L, 0) := by unfold textN txL; rw [hchk, if_neg (by simp)]
  have hTx := lbtext_any A n c L hn (by unfold maxLen; omega) w (hL w (OutH.refl _ _)) hLab tS
  rw [htx] at hTx
  have hTx := Lib.hid hTx
  have hn22 : n2 ≤ 22 := by rw [← hn2]; exact Nat.le_trans (hrow.few hI.ok) hm
  have HI := Lib.hid hI
  have Hm := Lib.hid hm
  have Hnd := Lib.hid hnd
  have Hnm := Lib.hid hnm
  have Ht := Lib.hid ht
  have Hn := Lib.hid hn
  have Hn2 := Lib.hid hn2
  have Hchk := Lib.hid hchk
  have HA := Lib.hid hA
  have Hrow := Lib.hid hrow
  have Hh := Lib.hid hh
  have Hbase := Lib.hid hbase
  have HP := Lib.hid hoP
  have HL := Lib.hid hL
  have HAll := Lib.hid hAll
  have HS := Lib.hid tS
  have HLab := Lib.hid hLab
  obtain ⟨key, hkey⟩ : ∃ key, txL L = key := ⟨_, rfl⟩
  have Hkey := Lib.hid hkey
  rw [hkey] at hTx
  clear htx hI hm hnd hnm ht hn hn2 hchk hA hrow hh hbase hoP hL hAll tS hLab hL10 hkey
  go_enter Tryz.func56, Tryz.ntmps56
  go_wp2_with fail
  refine hTx.out.mono ?_
  rintro e w1 ⟨rfl, hb1⟩
  have hh1 := Lib.hid (Hh.out.next hb1)
  have ho1 := Lib.hid (OutH.of hb1 Hbase.out)
  have hf1 := Lib.hid (OutF.of Hh.out.peers.prs hb1)
  have hP1 := Lib.hid (own_next HP.out hb1)
  clear hb1
  go_wp2_with fail
  go_loopw [24] (fun i wr => ∃ j : Nat, j ≤ t ∧ i = .int .i64 (j : Nat) ∧ Hid (HsAt wr base hb mb NA nc NL es clock kvs ls { h with ps := giveTo h.ps (names.take j) L all }) ∧ Hid (OutH base w wr) ∧ Hid (OutF ls w wr) ∧ Hid (wr.ownsRow bP 72 1 (.slice PA t pc) t (ptrCs (names.map (locOf ls h.ps))))) (fun i _ => t + 5 - (intOf i).toNat)
  case atStart => exact ⟨0, by omega, rfl, Lib.hid (by rw [List.take_zero, giveTo_map, mapAt_nil]; exact hh1.out), ho1, hf1, hP1⟩
  case round =>
    obtain ⟨j, hj, rfl, hhj, hoj, hfj, hPj⟩ := hrel
    obtain ⟨wj, rfl⟩ : ∃ wj, wj = wr := ⟨_, rfl⟩
    clear hh1 ho1 hf1 hP1
    by_cases hjt : (j : Int) < (t : Int)
    · have hjn : j < names.length := by rw [Ht.out]; omega
      obtain ⟨p, hf⟩ := Hnm.out _ (at_mem hjn)
      have hnot := take_nodup_not Hnd.out hjn
      have htk := take_snoc hjn
      have hcell : (ptrCs (names.map (locOf ls h.ps)))[j]? = some (.pointer (some ⟨(locOf ls h.ps (at_ names j)).1, 0, none⟩)) := by
        unfold ptrCs
        rw [List.map_map, List.getElem?_map, List.getElem?_eq_getElem hjn, ← at_eq hjn]
        rfl
      obtain ⟨adP, rfl, _, c0⟩ := (Has.of_own hPj.out).at hcell
      obtain ⟨nm, hnme⟩ : ∃ nm, at_ names j = nm := ⟨_, rfl⟩
      rw [hnme] at hf hnot htk c0
      obtain ⟨hpm, hpn⟩ := findP_mem hf
      have hsn := mapAt_snoc (f := giveF L all) (fun _ => rfl) HI.out.names hnot hf
      obtain ⟨P0, hP0⟩ : ∃ P0, giveTo h.ps (names.take j) L all = P0 := ⟨_, rfl⟩
      have hfP0 : findP P0 nm = some p := by
        rw [← hP0, giveTo_map, find_mapAt (f := giveF L all) (fun _ => rfl), hf]
        show some (if isIn (names.take j) p.nm = true then _ else p) = some p
        rw [if_neg (fun e => hnot (by rw [← hpn]; exact isIn_iff.1 e))]
      have hnames0 : P0.map (fun p : Peer => p.nm) = h.ps.map fun p : Peer => p.nm := by rw [← hP0]; exact giveTo_nm _ _ _ _
      have hnext : giveTo h.ps (names.take (j + 1)) L all = setP P0 (p.gave L (lacks (hasK p key) all)) := by
        rw [htk, giveTo_map, hsn, ← giveTo_map, hP0]
        unfold giveF
        rw [Hkey.out]
      rw [hP0] at hhj
      have hself : setP P0 p = P0 := setP_self (by rw [hnames0]; exact HI.out.names) (findP_mem hfP0).1
      obtain ⟨p8, hp8, hPA⟩ := hhj.out.peers.prs.at (find_some_ex hfP0)
      have hp8 : findP P0 nm = some p8 := hp8
      rw [hfP0] at hp8
      injection hp8 with hp8
      subst hp8
      have hloc0 : locOf ls P0 nm = locOf ls h.ps nm := locOf_congr ls nm hnames0
      have hPA : PeerAt wj base (locOf ls P0 nm).1 (locOf ls P0 nm).2 p := hPA
      rw [hloc0] at hPA
      obtain ⟨lc, hlc⟩ : ∃ lc, locOf ls h.ps nm = lc := ⟨_, rfl⟩
      rw [hlc] at hPA c0 hloc0
      obtain ⟨W5, hW5⟩ : ∃ W5, wj.alloc (.map #[] 0) = W5 := ⟨_, rfl⟩
      obtain ⟨mq, hmq⟩ : ∃ mq, wj.heap.size = mq := ⟨_, rfl⟩
      have hmk : (Instr.makeMap 140 none).run Tryz.prog wj = .ok (.map (some mq)) W5 := by rw [← hmq, ← hW5]; kernel_rfl
      have hb5 : Below wj.heap.size wj W5 := by rw [← hW5]; exact one_allocB _ _
      have hm5 : W5.heap[mq]? = some (.map #[] 0) := by rw [← hW5, ← hmq]; exact heap_alloc_new _ _
      have hpk : PeerOk2 p := HI.out.peer Hm.out hpm
      have hHas := Lib.hid (has_any base lc.1 lc.2 p hpk key W5 (hPA.next hb5) ((hoj.out.signs HS.out hsb).next hb5))
      have hup := Lib.hid (hasK_up hpk.ok key)
      obtain ⟨had, hhad⟩ : ∃ had, hasK p key = had := ⟨_, rfl⟩
      rw [hhad] at hHas hup hnext
      have Hhad := Lib.hid hhad
      have hhl : had.length ≤ 22 := Nat.le_trans hup.out.2 hpk.1
      have hin : ∀ i, i < had.length → in64 (at_ had i).t := fun i hi => by
        have h1 := hasN_put HI.out (key := key) (nm := nm) (t := (at_ had i).t) (v := (at_ had i).v) (by
          unfold hasN
          rw [hf]
          show look (hasK p key) _ = _
          rw [hhad]
          exact look_of_mem hup.out.1 (at_mem hi))
        exact (HI.out.ok _ h1.2.2).2.1
      have Hin := Lib.hid hin
      have hm5 := Lib.hid hm5
      have hb5 := Lib.hid hb5
      have Hnext := Lib.hid hnext
      have Hself := Lib.hid hself
      have HfP0 := Lib.hid hfP0
      have Hnames0 := Lib.hid hnames0
      have Hlc := Lib.hid hloc0
      have Hpn := Lib.hid hpn
      have Hpm := Lib.hid hpm
      have Hmq := Lib.hid hmq
      have q0 : (0 : Int) ≤ (j : Int) := by omega
      clear hjn hf hnot htk hcell hnme hsn hP0 hfP0 hnames0 hnext hself hPA hloc0 hlc hW5 hmq hpk hhad hin hpn hpm
      go_wp2_with fail
      refine hHas.out.mono ?_
      rintro e w6 ⟨v, rfl, HA6, hn6, hc6, rfl, hl6, ho6, hb6⟩
      have hm6 := Lib.hid ((hb6.block mq (Array.getElem?_eq_some_iff.1 hm5.out).1).trans hm5.out)
      have hbw6 := Lib.hid (bnext hb5.out hb6)
      have Hl6 := Lib.hid hl6
      have ho6 := Lib.hid ho6
      have hn622 : hn6 ≤ 22 := by rw [← hl6]; exact hhl
      clear hl6 hb6 hhl c0 hmk
      go_wp2_with fail
      go_loopw [33] (fun i wr => ∃ (k : Nat) (es2 : Array MapEntry) (cl2 : Nat), k ≤ hn6 ∧ i = .int .i64 (k : Nat) ∧ Hid (wr.heap[mq]? = some (.map es2 cl2)) ∧ Hid (MpS Tryz.prog 2 es2 cl2 (smpKV (had.take k))) ∧ Hid (CellsK w6 wr) ∧ Hid (Below wj.heap.size wj wr)) (fun i _ => hn6 + 5 - (intOf i).toNat)
      case atStart => exact ⟨0, #[], 0, by omega, rfl, hm6, Lib.hid (MpS.empty _ _ _), Lib.hid (CellsK.refl _), hbw6⟩
      case round =>
        obtain ⟨k, es2, cl2, hk, rfl, hmr, hsr, hcr, hbr⟩ := hrel
        by_cases hkt : (k : Int) < (hn6 : Int)
        · have hkl : k < had.length := by rw [Hl6.out]; omega
          have hor := Has.of_own (hcr.out.own ho6.out)
          obtain ⟨ad, rfl, _, c0⟩ := hor.at (smpCs_t hkl)
          obtain ⟨ad', e', _, c1⟩ := hor.at (smpCs_v hkl)
          injection e' with e'
          subst e'
          have c1 := cell_off c1 (by decide)
          have hdis := up_at hup.out.1 hkl
          have hkt2 := take_snoc hkl
          have hint := Hin.out k hkl
          obtain ⟨x, hx⟩ : ∃ x, at_ had k = x := ⟨_, rfl⟩
          rw [hx] at c0 c1 hdis hkt2 hint
          have q1 : (0 : Int) ≤ (k : Int) := by omega
          obtain ⟨W7, hW7⟩ : ∃ W7, wr.alloc (.cells #[.int .i64 x.t, .int .i64 x.v] 26) = W7 := ⟨_, rfl⟩
          obtain ⟨q7, hq7⟩ : ∃ q7, wr.heap.size = q7 := ⟨_, rfl⟩
          have hb7 : Below wr.heap.size wr W7 := by rw [← hW7]; exact one_allocB _ _
          have k7 : Blk W7 q7 26 #[.int .i64 x.t, .int .i64 x.v] := by rw [← hW7]; exact Blk.newD _ _ _ _ hq7
          have x0 : W7.cell? ⟨q7, 0, none⟩ = some (.int .i64 x.t) := k7.cell 0
          have x1 : W7.cell? ⟨q7, 1, none⟩ = some (.int .i64 x.v) := k7.cell 1
          have hm7 := (hb7.block mq (Array.getElem?_eq_some_iff.1 hmr.out).1).trans hmr.out
          obtain ⟨es', cl', hupd, hsh⟩ := upd_smp hm7 hsr.out hint hdis
          have hc8 := Lib.hid (hcr.out.trans ((CellsK.of hb7).trans (CellsK.setBlock hm7 (o := .map es' cl'))))
          have hm8 := Lib.hid (heap_setBlock_self (o := .map es' cl') (Array.getElem?_eq_some_iff.1 hm7).1)
          have hb8 := Lib.hid (below_setBlockG (bnext hbr.out hb7) (Nat.le_of_eq Hmq.out) (.map es' cl'))
          have hs8 := Lib.hid (show MpS Tryz.prog 2 es' cl' (smpKV (had.take (k + 1))) from by rw [hkt2]; exact hsh)
          obtain ⟨W8, hW8⟩ : ∃ W8, setBlock W7 mq (.map es' cl') = W8 := ⟨_, rfl⟩
          rw [hW8] at hupd hc8 hm8 hb8
          clear hkl hor hdis hkt2 hint hx hb7 k7 hm7 hsh hW8
          go_upto_region 8 with fail
          (try rw [hW7]); (try rw [hq7])
          clear hW7 hq7 c0 c1
          go_wp2_with fail
          go_roundw
          case rel => exact ⟨k + 1, es', cl', by omega, by go_num, hm8, hs8, hc8, hb8⟩
          case measure => simp [intOf]; omega
        · obtain rfl : k = hn6 := by omega
          have hsr := hsr.out
          rw [show had.take k = had by rw [← Hl6.out, List.take_length]] at hsr
          have hsr := Lib.hid hsr
          obtain ⟨wm, rfl⟩ : ∃ wm, wm = wr := ⟨_, rfl⟩
          have hhm := Lib.hid (show HsAt wm base hb mb NA nc NL es clock kvs ls { h with ps := setP P0 (p.gave L (lacks had (all.take 0))) } from by
            rw [List.take_zero, lacks_nil, gave_nil, Hself.out]
            exact hhj.out.next hbr.out)
          have hom := Lib.hid (hoj.out.trans (OutH.of hbr.out (Nat.le_trans Hbase.out hoj.out.size)))
          have hfm := Lib.hid (hfj.out.trans (OutF.of hhj.out.peers.prs hbr.out))
          have hnf := Lib.hid (show ¬ Feet wm ls mq from fun hq => by
            have h1 := (feet_next hhj.out.peers.prs hbr.out hq).lt hhj.out.peers.prs
            have h2 := Hmq.out
            omega)
          have hPm := Lib.hid (own_next hPj.out hbr.out)
          clear hcr hbw6 hm6 ho6
          go_wp2_with fail
          go_loopw [45] (fun i wr => ∃ k : Nat, k ≤ n2 ∧ i = .int .i64 (k : Nat) ∧ Hid (HsAt wr base hb mb NA nc NL es clock kvs ls { h with ps := setP P0 (p.gave L (lacks had (all.take k))) }) ∧ Hid (OutH base w wr) ∧ Hid (OutF ls w wr) ∧ Hid (¬ Feet wr ls mq) ∧ Hid (wr.heap[mq]? = some (.map es2 cl2)) ∧ Hid (wr.ownsRow bP 72 1 (.slice (some adP) t pc) t (ptrCs (names.map (locOf ls h.ps))))) (fun i _ => n2 + 5 - (intOf i).toNat)
          case atStart => exact ⟨0, by omega, rfl, hhm, hom, hfm, hnf, hmr, hPm⟩
          case round =>
            obtain ⟨k, hk, rfl, hhk, hok, hfk, hnk, hmk, hPk⟩ := hrel
            by_cases hkt : (k : Int) < (n2 : Int)
            · have hkl : k < all.length := by rw [Hn2.out]; omega
              have hor := HAll.out wr hok.out
              obtain ⟨ad, rfl, _, c0⟩ := hor.at (smpCs_t hkl)
              obtain ⟨ad', e', _, c1⟩ := hor.at (smpCs_v hkl)
              injection e' with e'
              subst e'
              have c1 := cell_off c1 (by decide)
              have hkt2 := take_snoc hkl
              have hmem := Hrow.out.mem _ (at_mem hkl)
              obtain ⟨x, hx⟩ : ∃ x, at_ all k = x := ⟨_, rfl⟩
              rw [hx] at c0 c1 hkt2 hmem
              obtain ⟨hokx, hinx⟩ := HI.out.ok _ hmem
              have q1 : (0 : Int) ≤ (k : Int) := by omega
              have hpk : PeerOk (p.gave L (lacks had (all.take k))) := by
                have h1 := gave_ok HI.out Hm.out Hpm.out Hrow.out k
                rw [Hkey.out, Hhad.out] at h1
                exact h1
              obtain ⟨pk, hpke⟩ : ∃ pk, p.gave L (lacks had (all.take k)) = pk := ⟨_, rfl⟩
              have hpkn : pk.nm = nm := by rw [← hpke]; exact Hpn.out
              rw [hpke] at hpk
              rw [hpke] at hhk
              have hfk2 : findP (setP P0 pk) nm = some pk := by
                have h1 := find_setP (ps := P0) (a := pk) (p0 := p) (by rw [hpkn]; exact HfP0.out)
                rw [hpkn] at h1
                exact h1
              obtain ⟨p8, hp8, hPA⟩ := hhk.out.peers.prs.at (find_some_ex hfk2)
              have hp8 : findP (setP P0 pk) nm = some p8 := hp8
              rw [hfk2] at hp8
              injection hp8 with hp8
              subst hp8
              have hlock : locOf ls (setP P0 pk) nm = lc := (locOf_congr ls nm (setP_nm P0 pk)).trans Hlc.out
              have hPA : PeerAt wr base (locOf ls (setP P0 pk) nm).1 (locOf ls (setP P0 pk) nm).2 pk := hPA
              rw [hlock] at hPA
              obtain ⟨W7, hW7⟩ : ∃ W7, wr.alloc (.cells #[.int .i64 x.t, .int .i64 x.v] 26) = W7 := ⟨_, rfl⟩
              obtain ⟨q7, hq7⟩ : ∃ q7, wr.heap.size = q7 := ⟨_, rfl⟩
              have hb7 : Below wr.heap.size wr W7 := by rw [← hW7]; exact one_allocB _ _
              have k7 : Blk W7 q7 26 #[.int .i64 x.t, .int .i64 x.v] := by rw [← hW7]; exact Blk.newD _ _ _ _ hq7
              have x0 : W7.cell? ⟨q7, 0, none⟩ = some (.int .i64 x.t) := k7.cell 0
              have x1 : W7.cell? ⟨q7, 1, none⟩ = some (.int .i64 x.v) := k7.cell 1
              have hm7 := (hb7.block mq (Array.getElem?_eq_some_iff.1 hmk.out).1).trans hmk.out
              have hb7s : base ≤ W7.heap.size := Nat.le_trans Hbase.out (Nat.le_trans hok.out.size hb7.size)
              have hoW := hok.out.trans (OutH.of hb7 (Nat.le_trans Hbase.out hok.out.size))
              have hfW := hfk.out.trans (OutF.of hhk.out.peers.prs hb7)
              have hnW : ¬ Feet W7 ls mq := fun hq => hnk.out (feet_next hhk.out.peers.prs hb7 hq)
              have hK := Lib.hid (keep_any base lc.1 lc.2 pk hpk A n c L Hn.out (by have := (chkL_ok Hchk.out).1; have := Hn.out; unfold maxLen; omega) HA.out x hinx hokx HLab.out W7 (hPA.next hb7) hb7s (HL.out W7 hoW) (hoW.signs HS.out hsb))
              have hstep := Lib.hid (fun (hB : lackB had x = true) (w8 : World) (hP8 : PeerAt w8 base lc.1 lc.2 (pk.put (L, x))) (hO8 : OutS base lc.2 W7 w8) => show Hid (HsAt w8 base hb mb NA nc NL es clock kvs ls { h with ps := setP P0 (p.gave L (lacks had (all.take (k + 1)))) }) ∧ Hid (OutH base w w8) ∧ Hid (OutF ls w w8) ∧ Hid (¬ Feet w8 ls mq) ∧ Hid (w8.heap[mq]? = some (.map es2 cl2)) ∧ Hid (w8.ownsRow bP 72 1 (.slice (some adP) t pc) t (ptrCs (names.map (locOf ls h.ps)))) from by
                have hpn2 : (pk.put (L, x)).nm = nm := hpkn
                obtain ⟨s1, s2, s3⟩ := (hhk.out.next hb7).stepF (p2 := pk.put (L, x)) (w' := w8) (by rw [hpn2]; exact find_some_ex hfk2) (by rw [hpn2]; show PeerAt w8 base (locOf ls (setP P0 pk) nm).1 (locOf ls (setP P0 pk) nm).2 _; rw [hlock]; exact hP8) (by rw [hpn2]; show OutS base (locOf ls (setP P0 pk) nm).2 W7 w8; rw [hlock]; exact hO8)
                have e1 : setP (setP P0 pk) (pk.put (L, x)) = setP P0 (p.gave L (lacks had (all.take (k + 1)))) := by
                  rw [setP_setP P0 (a := pk) (b := pk.put (L, x)) rfl, ← hpke, gave_put, hkt2, lacks_snoc, hB, if_pos rfl]
                have s1 : HsAt w8 base hb mb NA nc NL es clock kvs ls { h with ps := setP (setP P0 pk) (pk.put (L, x)) } := s1
                rw [e1] at s1
                exact ⟨Lib.hid s1, Lib.hid (hoW.trans s2), Lib.hid (hfW.trans s3), Lib.hid (OutF.apart s3 (Array.getElem?_eq_some_iff.1 hm7).1 hnW), Lib.hid ((s3.block mq (Array.getElem?_eq_some_iff.1 hm7).1 hnW).trans hm7), Lib.hid (s2.own (own_next hPk.out hb7) (by unfold HsKind StKind; decide))⟩)
              have hskip := Lib.hid (fun (hB : lackB had x = false) => show Hid (HsAt W7 base hb mb NA nc NL es clock kvs ls { h with ps := setP P0 (p.gave L (lacks had (all.take (k + 1)))) }) from by
                rw [hkt2, lacks_snoc, hB, if_neg (by simp), List.append_nil, hpke]
                exact Lib.hid (hhk.out.next hb7))
              have hr := look_smp hm7 hsr.out hup.out.1 hinx.1
              have hoW := Lib.hid hoW
              have hfW := Lib.hid hfW
              have hnW := Lib.hid hnW
              have hm7 := Lib.hid hm7
              have hPW := Lib.hid (own_next hPk.out hb7)
              clear hkl hor hkt2 hmem hx hokx hinx hpk hpke hpkn hfk2 hhk hPA hlock hb7 k7 hb7s hhm hom hfm hnf hPm
              rcases hr with ⟨hl0, hr⟩ | ⟨v0, hl0, hr⟩
              · have hB := Lib.hid (show lackB had x = true from lackB_none hl0)
                clear hl0
                go_upto_region 13 with fail
                (try rw [hW7]); (try rw [hq7])
                clear hW7 hq7 c0 c1
                go_wp2_with fail
                refine hK.out.mono ?_
                rintro e w8 ⟨rfl, hP8, hO8⟩
                have hs8 := hstep.out hB.out w8 hP8 hO8
                clear hP8 hO8 x0 x1 hr
                go_wp2_with fail
                go_roundw
                case rel => exact ⟨k + 1, by omega, by go_num, hs8.1, hs8.2.1, hs8.2.2.1, hs8.2.2.2.1, hs8.2.2.2.2.1, hs8.2.2.2.2.2⟩
                case measure => simp [intOf]; omega
              · by_cases hv : v0 < x.v
                · have hB := Lib.hid (show lackB had x = true from by rw [lackB_some hl0]; exact decide_eq_true hv)
                  clear hl0
                  go_upto_region 13 with fail
                  (try rw [hW7]); (try rw [hq7])
                  clear hW7 hq7 c0 c1
                  go_wp2_with fail
                  refine hK.out.mono ?_
                  rintro e w8 ⟨rfl, hP8, hO8⟩
                  have hs8 := hstep.out hB.out w8 hP8 hO8
                  clear hP8 hO8 x0 x1 hr
                  go_wp2_with fail
                  go_roundw
                  case rel => exact ⟨k + 1, by omega, by go_num, hs8.1, hs8.2.1, hs8.2.2.1, hs8.2.2.2.1, hs8.2.2.2.2.1, hs8.2.2.2.2.2⟩
                  case measure => simp [intOf]; omega
                · have hs8 := hskip.out (show lackB had x = false from by rw [lackB_some hl0]; exact decide_eq_false hv)
                  clear hl0
                  go_upto_region 13 with fail
                  (try rw [hW7]); (try rw [hq7])
                  clear hW7 hq7 c0 c1
                  go_wp2_with fail
                  go_roundw
                  case rel => exact ⟨k + 1, by omega, by go_num, hs8, hoW, hfW, hnW, hm7, hPW⟩
                  case measure => simp [intOf]; omega
            · obtain rfl : k = n2 := by omega
              have hz := hhk.out
              rw [show all.take k = all by rw [← Hn2.out, List.take_length], ← Hnext.out] at hz
              have hz := Lib.hid hz
              clear hhm hom hfm hnf hPm hhk
              go_wp2_with fail
              go_roundw
              case rel => exact ⟨j + 1, by omega, by go_num, hz, hok, hfk, hPk⟩
              case measure => simp [intOf]; omega
    · obtain rfl : j = t := by omega
      have hz := hhj.out
      rw [show names.take j = names by rw [← Ht.out, List.take_length]] at hz
      have hz := Lib.hid hz
      go_wp2_with fail
      exact bodyPost_end (v := .tuple #[]) (results_none rfl _ _ _) rfl (R1.mk rfl ⟨hz.out, hoj.out, hfj.out⟩)
end Go.Proofs.YtihjgbhnlejhfaaGreatDoor
namespace Go.Proofs.YtihjgbhnlejhfaaGreatDoor
open Go.RowKit Go.ChangeMaps

def SmpsE (l : List Smp) (w : World) (v : Value) (w' : World) : Prop := ∃ A n c, v = .tuple #[.slice A n c, .int .i64 0] ∧ l.length = n ∧ w'.ownsRow w.heap.size 26 2 (.slice A n c) n (smpCs l) ∧ Below w.heap.size w w'
theorem mergeS_any (A : Option Addr) (n c : Nat) (a : List Smp) (hn : a.length = n) (hac : n ≤ c) (hc : c ≤ maxLen) (B : Option Addr) (m d : Nat) (b : List Smp) (hm : b.length = m) (hbd : m ≤ d) (hd : d ≤ maxLen) (ha : Up a) (hb : Up b) (h1 : n ≤ 1000) (h2 : m ≤ 1000) (hk : (mergeUp a b).length ≤ 1000) (w : World) (hA : Has w w.heap.size A (smpCs a)) (hB : Has w w.heap.size B (smpCs b)) :
    Calls Tryz.prog 53 #[.slice A n c, .slice B m d] w (RV (SmpsE (mergeUp a b) w)) := by
  subst hn hm
  refine (merge_any A c a hac hc B d b hbd hd w hA hB).mono ?_
  rintro e w1 ⟨v, rfl, A1, c1, rfl, ho, hb1⟩
  have e : mergeN a b = (mergeUp a b, 0) := by
    unfold mergeN
    rw [if_neg (by rw [upS ha h1]; simp), if_neg (by rw [upS hb h2]; simp), if_neg (by omega)]
  rw [e] at ho ⊢
  exact RV.mk ⟨A1, _, c1, rfl, rfl, ho, hb1⟩
/-- what get answers -/
def GetP (r : Option (List Smp)) (w : World) (v : Value) (w' : World) : Prop :=
  match r with
  | none => v = .tuple #[.slice none 0 0, .int .i64 13] ∧ Below w.heap.size w w'
  | some l => SmpsE l w v w'
theorem mergeAll_take {f : ByteArray → List Smp} {l : List ByteArray} {j : Nat} (hj : j < l.length) : mergeAll f (l.take (j + 1)) [] = mergeUp (mergeAll f (l.take j) []) (f (at_ l j)) := by
  rw [List.take_add_one, List.getElem?_eq_getElem hj, at_eq hj]
  unfold mergeAll
  rw [List.foldl_append]
  rfl
set_option maxRecDepth 1000000 in
set_option maxHeartbeats 8000000 in
theorem hget_any (base hb mb : Nat) (NA : Option Addr) (nc : Nat) (NL : List NodE) (es : Array MapEntry) (clock : Nat) (kvs : List (Value × Value)) (ls : List (Nat × Nat)) (puts : List Pt) (h : Hse) (hI : HseI puts h) (hm : puts.length ≤ 22) (hr20 : h.read ≤ 20) (key : ByteArray) (hkey : key.size ≤ maxLen)
    (w : World) (hh : HsAt w base hb mb NA nc NL es clock kvs ls h) (tS : SgAt w) :
    Calls Tryz.prog 42 #[.pointer (some ⟨hb, 0, none⟩), .string key] w (RV (GetP (getK h key) w)) := by
  have hc20 := hI.cop
  have hok := hI.hse
  have hin := ownK_in hok key
  have hfd := liveK_find hok key
  have hlen := live_sub h.nodes h.copies h.ps key
  have HO := Lib.hid (fun (w1 : World) (hb1 : Below w.heap.size w w1) => howners_any base hb (.slice NA NL.length nc) h.copies (.int .i64 h.write) (.int .i64 h.read) (.map (some mb)) hc20 NA NL.length nc NL rfl (Nat.le_trans (own_len hh.row).1 (own_len hh.row).2) (by rw [hh.nodes]; exact hok.ring) key hkey mb es clock kvs ls h.ps (by rw [hh.nodes]; exact hin) w1 (hh.next hb1).obj (Has.of_own (hh.next hb1).row) (fun e he => ((hh.next hb1).tks e he).ok) (hh.next hb1).peers)
  rw [hh.nodes] at HO
  have hg := getK_eq h key
  have hrow := fun l => (mergeAll_row hI hm key l).1
  have hfew := fun l => (mergeAll_row hI hm key l).1.few hI.ok
  obtain ⟨names, hnames⟩ : ∃ names, liveK h.nodes h.copies h.ps key = names := ⟨_, rfl⟩
  rw [hnames] at hfd HO hlen hg
  obtain ⟨lp, hlp⟩ : ∃ lp, names.map (locOf ls h.ps) = lp := ⟨_, rfl⟩
  rw [hlp] at HO
  obtain ⟨t, ht⟩ : ∃ t, names.length = t := ⟨_, rfl⟩
  have hlt : lp.length = t := by rw [← hlp, List.length_map, ht]
  rw [ht] at hlen hg
  have ht20 : t ≤ 20 := by omega
  have hr3 : (h.read : Int) ≤ 20 := by omega
  obtain ⟨r, hr⟩ : ∃ r, getK h key = r := ⟨_, rfl⟩
  rw [hr] at hg ⊢
  have o0 : w.cell? ⟨hb, 0, none⟩ = some (.slice NA NL.length nc) := hh.obj.cell 0
  have o4 : w.cell? ⟨hb, 4, none⟩ = some (.map (some mb)) := hh.obj.cell 4
  have o0' : ∀ W : World, Below w.heap.size w W → W.cell? ⟨hb, 0, none⟩ = some (.slice NA NL.length nc) ∧ W.cell? ⟨hb, 4, none⟩ = some (.map (some mb)) := fun W hW => ⟨(hW.cell (p := ⟨hb, 0, none⟩) (World.block_lt_of_cell? w ⟨hb, 0, none⟩ o0)).trans o0, (hW.cell (p := ⟨hb, 4, none⟩) (World.block_lt_of_cell? w ⟨hb, 4, none⟩ o4)).trans o4⟩
  have o0' := Lib.hid o0'
  have HO2 := Lib.hid (HO.out (w.drewN 1) (below_drewN (Below.refl _ _) 1))
  have HI := Lib.hid hI
  have Hm := Lib.hid hm
  have Hfd := Lib.hid hfd
  have Hlp := Lib.hid hlp
  have Ht := Lib.hid ht
  have Hg := Lib.hid hg
  have Hrow := Lib.hid hrow
  have Hfew := Lib.hid hfew
  have Hh := Lib.hid hh
  have HS := Lib.hid tS
  clear hI hm hok hin hfd hlp ht hg hrow hfew hh tS hr hnames hkey HO
  go_enter Tryz.func42, Tryz.ntmps42
  go_upto_region 1 with fail
  go_cut [1, 6] from 1 to 2 (fun k v wx => ∃ PA pc, k = .string key ∧ v = .slice PA t pc ∧ Hid (wx.ownsRow (w.drewN 1).heap.size 72 1 (.slice PA t pc) t (ptrCs lp)) ∧ Hid (Below w.heap.size w wx))
  case first =>
    go_region_held_law (fun w' => w'.cell? ⟨hb, 0, none⟩ = some (.slice NA NL.length nc) ∧ w'.cell? ⟨hb, 4, none⟩ = some (.map (some mb)))
      (first | exact o0'.out _ (Below.refl _ _) | exact o0'.out _ (below_drewN (Below.refl _ _) 1) | exact o0'.out _ (by assumption))
      (first
        | (go_at_call 39
           refine (HO2.out).mono ?_
           rintro e w3 ⟨v, rfl, PA, pc, rfl, hoP, hb3⟩
           rw [hlt] at hoP
           have hb23 : Below w.heap.size w w3 := bnext (below_drewN (Below.refl _ _) 1) hb3))
    all_goals
      try rw [hlt]
      go_wp2_with fail
      go_meet
      exact ⟨PA, pc, rfl, rfl, Lib.hid hoP, Lib.hid hb23⟩
  case rest =>
  obtain ⟨PA, pc, rfl, rfl, hoP, hb1⟩ := hcut
  obtain ⟨w1, rfl⟩ : ∃ w1, w1 = wc := ⟨_, rfl⟩
  have o3 : w1.cell? ⟨hb, 3, none⟩ = some (.int .i64 h.read) := (Hh.out.next hb1.out).obj.cell 3
  clear o0 o4 o0' HO2
  by_cases hfw : (t : Int) < (h.read : Int)
  · have e : r = none := by rw [Hg.out, if_pos (by omega)]
    subst e
    go_wp2_with fail
    go_ret2
    exact RV.mk ⟨rfl, hb1.out⟩
  · have e : r = some (mergeAll (hasN h.ps key) names []) := by rw [Hg.out, if_neg (by omega)]
    subst e
    go_wp2_with fail
    go_loopw [7, 31] (fun v i wr => ∃ (j q e : Nat) (O : Option Addr), j ≤ t ∧ i = .int .i64 (j : Nat) ∧ v = .slice O q e ∧ Hid ((mergeAll (hasN h.ps key) (names.take j) []).length = q) ∧ Hid (wr.ownsRow w1.heap.size 26 2 (.slice O q e) q (smpCs (mergeAll (hasN h.ps key) (names.take j) []))) ∧ Hid (Below w1.heap.size w1 wr)) (fun _ i _ => t + 5 - (intOf i).toNat)
    case atStart => exact ⟨0, 0, 0, none, by omega, rfl, rfl, Lib.hid rfl, Lib.hid (World.ownsRow_nil _ _ _ _), Lib.hid (Below.refl _ _)⟩
    case round =>
      obtain ⟨j, q, e, O, hj, rfl, rfl, hq, hO, hbr⟩ := hrel
      by_cases hlt2 : (j : Int) < (t : Int)
      · have hjn : j < names.length := by rw [Ht.out]; omega
        have hjp : j < lp.length := by omega
        obtain ⟨p, hf, hpm⟩ := Hfd.out _ (at_mem hjn)
        have hcell : (ptrCs lp)[j]? = some (.pointer (some ⟨(locOf ls h.ps (at_ names j)).1, 0, none⟩)) := by
          unfold ptrCs
          rw [← Hlp.out, List.map_map, List.getElem?_map, List.getElem?_eq_getElem hjn, ← at_eq hjn]
          rfl
        obtain ⟨ad, rfl, _, c0⟩ := ((Has.of_own hoP.out).next hbr.out).at hcell
        have hmt := mergeAll_take (f := hasN h.ps key) hjn
        obtain ⟨nm, hnme⟩ : ∃ nm, at_ names j = nm := ⟨_, rfl⟩
        rw [hnme] at hf c0 hmt
        have hbw := bnext hb1.out hbr.out
        obtain ⟨p8, hp8, hPA⟩ := (Hh.out.next hbw).peers.prs.at (find_some_ex hf)
        rw [hf] at hp8
        injection hp8 with hp8
        subst hp8
        obtain ⟨lc, hlc⟩ : ∃ lc, locOf ls h.ps nm = lc := ⟨_, rfl⟩
        rw [hlc] at hPA c0
        have hpk := HI.out.peer Hm.out hpm
        have hHas := has_any base lc.1 lc.2 p hpk key wr hPA (HS.out.next hbw)
        have hN : hasN h.ps key nm = hasK p key := by unfold hasN; rw [hf]
        have hup := hasK_up hpk.ok key
        rw [← hN] at hHas hup
        have hra := (Hrow.out (names.take j)).up
        have hrl := Hfew.out (names.take (j + 1))
        have hql := Hfew.out (names.take j)
        rw [hmt] at hrl
        obtain ⟨had, hhad⟩ : ∃ had, hasN h.ps key nm = had := ⟨_, rfl⟩
        rw [hhad] at hHas hup hmt hrl
        obtain ⟨acc, hacc⟩ : ∃ acc, mergeAll (hasN h.ps key) (names.take j) [] = acc := ⟨_, rfl⟩
        rw [hacc] at hmt hra hrl hq hO hql
        have h22 := Hm.out
        have hup2 := Nat.le_trans hup.2 hpk.1
        have hM := Lib.hid (fun (A : Option Addr) (m d : Nat) (hmd : had.length = m) (w3 : World) (hb3 : Below wr.heap.size wr w3) (ho3 : w3.ownsRow wr.heap.size 26 2 (.slice A m d) m (smpCs had)) => mergeS_any O q e acc hq.out (own_len hO.out).1 (own_len hO.out).2 A m d had hmd (own_len ho3).1 (own_len ho3).2 hra hup.1 (by rw [← hq.out]; omega) (by rw [← hmd]; omega) (by omega) w3 (Has.of_own (own_next hO.out hb3)) (Has.of_own ho3))
        have hHas := Lib.hid hHas
        have hmt := Lib.hid hmt
        have q0 : (0 : Int) ≤ (j : Int) := by omega
        clear hjn hjp hf hpm hcell hnme hbw hPA hlc hpk hN hup hra hrl hhad hacc h22 hql hup2
        go_wp2_with fail
        refine hHas.out.mono ?_
        rintro e9 w3 ⟨v, rfl, A3, m3, d3, rfl, hl3, ho3, hb3⟩
        have hM3 := Lib.hid (hM.out A3 m3 d3 hl3 w3 hb3 ho3)
        have hb3 := Lib.hid hb3
        clear hl3 ho3 hM c0
        go_wp2_with fail
        refine hM3.out.mono ?_
        rintro e9 w4 ⟨v, rfl, A4, m4, d4, rfl, hl4, ho4, hb4⟩
        have hl4 := Lib.hid hl4
        have hb14 := Lib.hid (bnext hbr.out (bnext hb3.out hb4))
        have ho4 := Lib.hid (own_less ho4 (Nat.le_trans hbr.out.size hb3.out.size))
        clear hb4
        go_wp2_with fail
        go_roundw
        case rel => exact ⟨j + 1, m4, d4, A4, by omega, by go_num, rfl, Lib.hid (by rw [hmt.out]; exact hl4.out), Lib.hid (by rw [hmt.out]; exact ho4.out), hb14⟩
        case measure => simp [intOf]; omega
      · obtain rfl : j = t := by omega
        have hq2 := hq.out
        have hz := hO.out
        rw [show names.take j = names by rw [← Ht.out, List.take_length]] at hz hq2
        have hq2 := Lib.hid hq2
        have hz := Lib.hid hz
        clear hq hO
        go_wp2_with fail
        go_ret2
        exact RV.mk ⟨O, q, e, rfl, hq2.out, own_less hz.out hb1.out.size, bnext hb1.out hbr.out⟩
/-- what Get answers -/
def getH (h : Hse) (L : List Lab) : Int × List Smp := if chkL L ≠ 0 then (chkL L, []) else match getK h (txL L) with | none => (13, []) | some l => (0, l)
def GetHP (r : Int × List Smp) (w : World) (v : Value) (w' : World) : Prop := ∃ A n c, v = .tuple #[.slice A n c, .int .i64 r.1] ∧ r.2.length = n ∧ w'.ownsRow w.heap.size 26 2 (.slice A n c) n (smpCs r.2) ∧ Below w.heap.size w w'
set_option maxRecDepth 1000000 in
set_option maxHeartbeats 2000000 in
theorem hGet_any (base hb mb : Nat) (NA : Option Addr) (nc : Nat) (NL : List NodE) (es : Array MapEntry) (clock : Nat) (kvs : List (Value × Value)) (ls : List (Nat × Nat)) (puts : List Pt) (h : Hse) (hI : HseI puts h) (hm : puts.length ≤ 22) (hr20 : h.read ≤ 20)
    (A : Option Addr) (n c : Nat) (L : List Lab) (hn : L.length = n) (hl : n ≤ maxLen) (hL : ∀ e ∈ L, LabOk e) (w : World) (hrow : Has w w.heap.size A (labCs L)) (hh : HsAt w base hb mb NA nc NL es clock kvs ls h) (tS : SgAt w) :
    Calls Tryz.prog 14 #[.pointer (some ⟨hb, 0, none⟩), .slice A n c] w (RV (GetHP (getH h L) w)) := by
  have hT := lbtext_any A n c L hn hl w hrow hL tS
  by_cases hchk : chkL L = 0
  · have htx : textN L = (txL L, 0) := by unfold textN txL; rw [hchk, if_neg (by simp)]
    have hts : (txL L).size ≤ 1200 := txtB_size (chkM_asM hchk)
    have hg : getH h L = match getK h (txL L) with | none => (13, []) | some l => (0, l) := by unfold getH; rw [if_neg (by simpa using hchk)]
    rw [htx] at hT
    have HG := Lib.hid (fun (w1 : World) (hb1 : Below w.heap.size w w1) => hget_any base hb mb NA nc NL es clock kvs ls puts h hI hm hr20 (txL L) (by unfold maxLen; omega) w1 (hh.next hb1) (tS.next hb1))
    rw [hg]
    obtain ⟨r, hr⟩ : ∃ r, getK h (txL L) = r := ⟨_, rfl⟩
    rw [hr] at HG ⊢
    obtain ⟨key, hkey⟩ : ∃ key, txL L = key := ⟨_, rfl⟩
    rw [hkey] at hT HG
    have hT := Lib.hid hT
    clear hI hm hn hl hL hrow hh tS hchk htx hts hg hr hkey
    go_enter Tryz.func14, Tryz.ntmps14
    go_wp2_with fail
    refine hT.out.mono ?_
    rintro e w1 ⟨rfl, hb1⟩
    have HG1 := Lib.hid (HG.out w1 hb1)
    have hb1 := Lib.hid hb1
    clear HG
    cases r with
    | none =>
      go_wp2_with fail
      refine HG1.out.mono ?_
      rintro e w2 ⟨v, rfl, rfl, hb2⟩
      have hb2 := Lib.hid hb2
      go_wp2_with fail
      go_ret2
      exact RV.mk ⟨none, 0, 0, rfl, rfl, World.ownsRow_nil _ _ _ _, bnext hb1.out hb2.out⟩
    | some l =>
      go_wp2_with fail
      refine HG1.out.mono ?_
      rintro e w2 ⟨v, rfl, A2, n2, c2, rfl, hl2, ho2, hb2⟩
      have hb2 := Lib.hid hb2
      have hl2 := Lib.hid hl2
      have ho2 := Lib.hid ho2
      go_wp2_with fail
      go_ret2
      exact RV.mk ⟨A2, n2, c2, rfl, hl2.out, own_less ho2.out hb1.out.size, bnext hb1.out hb2.out⟩
  · have htx : textN L = (⟨#[]⟩, chkL L) := by unfold textN; rw [if_pos hchk]
    have hg : getH h L = (chkL L, []) := by unfold getH; rw [if_pos hchk]
    rw [htx] at hT
    rw [hg]
    obtain ⟨z, hz⟩ : ∃ z, chkL L = z := ⟨_, rfl⟩
    rw [hz] at hT hchk ⊢
    have f1 : (z != 0) = true := by rw [bne_iff_ne]; exact hchk
    have hT := Lib.hid hT
    clear hI hm hn hl hL hrow hh tS hchk htx hg hz
    go_enter Tryz.func14, Tryz.ntmps14
    go_wp2_with fail
    refine hT.out.mono ?_
    rintro e w1 ⟨rfl, hb1⟩
    have hb1 := Lib.hid hb1
    go_wp2_with fail
    go_ret2
    exact RV.mk ⟨none, 0, 0, rfl, rfl, World.ownsRow_nil _ _ _ _, hb1.out⟩
end Go.Proofs.YtihjgbhnlejhfaaGreatDoor
namespace Go.Proofs.YtihjgbhnlejhfaaGreatDoor
open Go.RowKit Go.ChangeMaps

set_option maxRecDepth 1000000 in
set_option maxHeartbeats 8000000 in
theorem hmend_any (base hb mb : Nat) (NA : Option Addr) (nc : Nat) (NL : List NodE) (es : Array MapEntry) (clock : Nat) (kvs : List (Value × Value)) (ls : List (Nat × Nat)) (puts : List Pt) (h : Hse) (hI : HseI puts h) (hm : puts.length ≤ 22) (hr20 : h.read ≤ 20)
    (A : Option Addr) (n c : Nat) (L : List Lab) (hn : L.length = n) (hl : n ≤ maxLen) (hA : A = none → n = 0 ∧ c = 0) (hL : ∀ e ∈ L, LabOk e) (w : World) (hh : HsAt w base hb mb NA nc NL es clock kvs ls h) (hbase : base ≤ w.heap.size) (hrow : Has w base A (labCs L)) (tS : SgAt w) (hsb : 0 < base) :
    Calls Tryz.prog 26 #[.pointer (some ⟨hb, 0, none⟩), .slice A n c] w (R1 (.int .i64 (mendH h L).2) (GiveP base hb mb NA nc NL es clock kvs ls (mendH h L).1 w)) := by
  have HG := Lib.hid (hGet_any base hb mb NA nc NL es clock kvs ls puts h hI hm hr20 A n c L hn hl hL w (hrow.more hbase) hh tS)
  have hgE : getH h L = if chkL L ≠ 0 then (chkL L, []) else match getK h (txL L) with | none => (13, []) | some l => (0, l) := rfl
  have hmE : mendH h L = if chkL L ≠ 0 then (h, chkL L) else match getK h (txL L) with | none => (h, 13) | some all => ({ h with ps := giveTo h.ps (liveK h.nodes h.copies h.ps (txL L)) L all }, 0) := rfl
  have Hkeep := Lib.hid (fun (w1 : World) (hb1 : Below w.heap.size w w1) => show GiveP base hb mb NA nc NL es clock kvs ls h w w1 from ⟨hh.next hb1, OutH.of hb1 hbase, OutF.of hh.peers.prs hb1⟩)
  by_cases hno : ∃ z, z ≠ 0 ∧ getH h L = (z, []) ∧ mendH h L = (h, z)
  · obtain ⟨z, hz, e1, e2⟩ := hno
    rw [e1] at HG
    rw [e2]
    have f1 : (z != 0) = true := by rw [bne_iff_ne]; exact hz
    clear hI hm hn hl hA hL hh hrow tS hgE hmE e1 e2 hz
    go_enter Tryz.func26, Tryz.ntmps26
    go_wp2_with fail
    refine HG.out.mono ?_
    rintro e w1 ⟨v, rfl, A1, n1, c1, rfl, hl1, ho1, hb1⟩
    have hl1 := Lib.hid hl1
    have ho1 := Lib.hid ho1
    have hb1 := Lib.hid hb1
    go_wp2_with fail
    go_ret
    exact R1.mk rfl (Hkeep.out w1 hb1.out)
  · have hchk : chkL L = 0 := by
      refine Decidable.byContradiction fun h0 => hno ⟨chkL L, h0, ?_, ?_⟩
      · rw [hgE, if_pos h0]
      · rw [hmE, if_pos h0]
    obtain ⟨all, hall⟩ : ∃ all, getK h (txL L) = some all := by
      cases hk : getK h (txL L) with
      | some all => exact ⟨all, rfl⟩
      | none => exact absurd ⟨13, by simp, by rw [hgE, if_neg (by simpa using hchk), hk], by rw [hmE, if_neg (by simpa using hchk), hk]⟩ hno
    rw [if_neg (by simpa using hchk), hall] at hgE hmE
    replace hmE : mendH h L = ({ h with ps := giveTo h.ps (liveK h.nodes h.copies h.ps (txL L)) L all }, 0) := hmE
    replace hgE : getH h L = (0, all) := hgE
    rw [hgE] at HG
    rw [hmE]
    have hpr := (getK_row hI hm hall).1
    rw [labOf_tx hchk] at hpr
    have hok := hI.hse
    have hc20 := hI.cop
    have hts : (txL L).size ≤ 1200 := txtB_size (chkM_asM hchk)
    have htx : textN L = (txL L, 0) := by unfold textN txL; rw [hchk, if_neg (by simp)]
    have hnd := liveK_nodup h.nodes h.copies h.ps (txL L)
    have hfd := liveK_find hok (txL L)
    have hlen := live_sub h.nodes h.copies h.ps (txL L)
    have hin := ownK_in hok (txL L)
    have HT := Lib.hid (fun (w1 : World) (hb : Below w.heap.size w w1) => by have := lbtext_any A n c L hn hl w1 ((hrow.more hbase).next hb) hL (tS.next hb); rw [htx] at this; exact this)
    have HO := Lib.hid (fun (w1 : World) (hb1 : Below w.heap.size w w1) => howners_any base hb (.slice NA NL.length nc) h.copies (.int .i64 h.write) (.int .i64 h.read) (.map (some mb)) hc20 NA NL.length nc NL rfl (Nat.le_trans (own_len hh.row).1 (own_len hh.row).2) (by rw [hh.nodes]; exact hok.ring) (txL L) (by unfold maxLen; omega) mb es clock kvs ls h.ps (by rw [hh.nodes]; exact hin) w1 (hh.next hb1).obj (Has.of_own (hh.next hb1).row) (fun e he => ((hh.next hb1).tks e he).ok) (hh.next hb1).peers)
    rw [hh.nodes] at HO
    obtain ⟨names, hnames⟩ : ∃ names, liveK h.nodes h.copies h.ps (txL L) = names := ⟨_, rfl⟩
    rw [hnames] at hnd hfd HO hlen ⊢
    obtain ⟨t, ht⟩ : ∃ t, names.length = t := ⟨_, rfl⟩
    have ht20 : t ≤ 20 := by omega
    have HGv := Lib.hid (fun (w3 : World) (hb3 : Below w.heap.size w w3) (PA : Option Addr) (pc bP : Nat) (hoP : w3.ownsRow bP 72 1 (.slice PA t pc) t (ptrCs (names.map (locOf ls h.ps)))) (A2 : Option Addr) (n2 c2 b2 : Nat) (hn2 : all.length = n2) (ho2 : w3.ownsRow b2 26 2 (.slice A2 n2 c2) n2 (smpCs all)) =>
      give_any base hb mb NA nc NL es clock kvs ls puts h hI hm names hnd (fun nm hm => by obtain ⟨p, hp, _⟩ := hfd nm hm; exact ⟨p, hp⟩) t ht ht20 PA pc bP A n c L hn hchk hA A2 n2 c2 all hn2 hpr w3 (hh.next hb3) (Nat.le_trans hbase hb3.size) hoP
        (fun w' hO => (hrow.keep fun a ha => ((OutH.of hb3 hbase).trans hO).below.cell ha).more (Nat.le_trans (Nat.le_trans hbase hb3.size) hO.size)) (fun w' hO => Has.of_own (hO.own ho2 (by unfold HsKind StKind; decide))) (tS.next hb3) hsb)
    obtain ⟨lp, hlp⟩ : ∃ lp, names.map (locOf ls h.ps) = lp := ⟨_, rfl⟩
    rw [hlp] at HO HGv
    have hlt : lp.length = t := by rw [← hlp, List.length_map, ht]
    obtain ⟨key, hkey⟩ : ∃ key, txL L = key := ⟨_, rfl⟩
    rw [hkey] at HT HO
    obtain ⟨h2, hh2⟩ : ∃ h2 : Hse, { h with ps := giveTo h.ps names L all } = h2 := ⟨_, rfl⟩
    rw [hh2] at HGv ⊢
    have Hh := Lib.hid hh
    have Hlt := Lib.hid hlt
    clear hI hm hno hl hA hL hn hh hrow tS hgE hmE hchk hall hpr hok hts htx hnd hfd hlen hin hnames ht hkey hlp hlt hh2
    go_enter Tryz.func26, Tryz.ntmps26
    go_wp2_with fail
    refine HG.out.mono ?_
    rintro e w1 ⟨v, rfl, A1, n1, c1, rfl, hl1, ho1, hb1⟩
    have Hl1 := Lib.hid hl1
    have Ho1 := Lib.hid ho1
    clear hl1 ho1
    go_wp2_with fail
    refine (HT.out _ hb1).mono ?_
    rintro e w2 ⟨rfl, hb2⟩
    have hb02 := bnext hb1 hb2
    have hh2 := Hh.out.next hb02
    have o0 : w2.cell? ⟨hb, 0, none⟩ = some (.slice NA NL.length nc) := hh2.obj.cell 0
    have o4 : w2.cell? ⟨hb, 4, none⟩ = some (.map (some mb)) := hh2.obj.cell 4
    have o0' := Lib.hid (fun (W : World) (hW : Below w2.heap.size w2 W) => show W.cell? ⟨hb, 0, none⟩ = some (.slice NA NL.length nc) ∧ W.cell? ⟨hb, 4, none⟩ = some (.map (some mb)) from ⟨(hh2.next hW).obj.cell 0, (hh2.next hW).obj.cell 4⟩)
    have HO2 := Lib.hid (HO.out (w2.drewN 1) (below_drewN hb02 1))
    have Ho2 := Lib.hid (own_next Ho1.out hb2)
    have Hb02 := Lib.hid hb02
    clear hh2 hb02 hb1 hb2 HO HT
    go_upto_region 5 with fail
    go_region_held_law (fun w' => w'.cell? ⟨hb, 0, none⟩ = some (.slice NA NL.length nc) ∧ w'.cell? ⟨hb, 4, none⟩ = some (.map (some mb)))
      (first | exact o0'.out _ (Below.refl _ _) | exact o0'.out _ (below_drewN (Below.refl _ _) 1) | exact ⟨hP8.1.obj.cell 0, hP8.1.obj.cell 4⟩ | exact o0'.out _ (by assumption))
      (first
        | (have hz := hb23
           go_at_call 56
           refine (HGv.out w3 hbw3 PA pc _ hoP A1 n1 c1 _ Hl1.out (own_next Ho2.out hb23)).mono ?_
           rintro e w8 ⟨rfl, hP8⟩)
        | (go_at_call 39
           refine (HO2.out).mono ?_
           rintro e w3 ⟨v, rfl, PA, pc, rfl, hoP, hb3⟩
           rw [Hlt.out] at hoP ⊢
           have hb23 : Below w2.heap.size w2 w3 := bnext (below_drewN (Below.refl _ _) 1) hb3
           have hbw3 : Below w.heap.size w w3 := bnext Hb02.out hb23))
    all_goals
      have HP8 := Lib.hid (show GiveP base hb mb NA nc NL es clock kvs ls h2 w w8 from ⟨hP8.1, (Hkeep.out w3 hbw3).2.1.trans hP8.2.1, (Hkeep.out w3 hbw3).2.2.trans hP8.2.2⟩)
      clear hP8
      go_wp2_with fail
      go_ret
      exact R1.mk rfl HP8.out
end Go.Proofs.YtihjgbhnlejhfaaGreatDoor
