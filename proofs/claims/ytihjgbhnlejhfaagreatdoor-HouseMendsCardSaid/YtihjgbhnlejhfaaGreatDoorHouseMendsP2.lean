/- Texts of the proof of HouseMends, joined (by merge.py). Conditions: each theorem's own hypotheses. -/
import Derived.Test.YtihjgbhnlejhfaaGreatDoorHouseAcksP40
import Derived.Test.YtihjgbhnlejhfaaGreatDoorHouseAcksP43
import Derived.Test.YtihjgbhnlejhfaaGreatDoorHouseMendsP1
namespace Go.Proofs.YtihjgbhnlejhfaaGreatDoor
open Go.Sort

theorem look_up_mem {l : List Smp} (h : Up l) {x : Smp} (hx : x ∈ l) {t v : Int} (hl : look l t = some v) (e : x.t = t) : x.v = v := by
  have h1 := look_of_mem h hx
  rw [e, hl] at h1
  injection h1 with h1
  exact h1.symm
theorem lacks_mem {had all : List Smp} {x : Smp} : x ∈ lacks had all ↔ x ∈ all ∧ lackB had x = true := by rw [lacks_eq, List.mem_filter]
/-- what a peer tells of a key and a time when it was given what it lacked -/
theorem give_look {puts : List Pt} {h : Hse} (k : HseI puts h) {p : Peer} (hp : p ∈ h.ps) {L : List Lab} {all : List Smp} (hr : PutRow puts L all) (key : ByteArray) (t : Int) :
    lookSt (giveF L all p).st key t = if txL L = key then join (lookSt p.st key t) (look all t) else lookSt p.st key t := by
  have hsub := give_sub (k.sub p hp) k.ok (L := L) all hr.up hr.mem p.qs (k.sub p hp) (fun q hq hn => absurd hq hn) fun q hq => hq
  have hin : ∀ q ∈ (giveF L all p).qs, SmpIn q.2 := fun q hq => (k.ok q (hsub.mem hq)).2
  have h1 := peer_top hin key t
  have h0 := peer_top (fun q hq => (k.ok q ((k.sub p hp).mem hq)).2) key t
  refine topP_ext h1 (qs := (giveF L all p).qs) ?_ fun _ => Iff.rfl
  have hqs : (giveF L all p).qs = p.qs ++ (lacks (hasK p (txL L)) all).map fun x => (L, x) := rfl
  rw [hqs]
  have hok : ∀ x ∈ all, okP (L, x) := fun x hx => (k.ok _ (hr.mem x hx)).1
  -- what is new and tells of the key and the time
  have hnew : ∀ q ∈ (lacks (hasK p (txL L)) all).map (fun x => (L, x)), hitP key t q → txL L = key ∧ ∃ x ∈ all, q = (L, x) ∧ x.t = t ∧ lackB (hasK p (txL L)) x = true := fun q hq hh => by
    obtain ⟨x, hx, rfl⟩ := List.mem_map.1 hq
    obtain ⟨h2, h3⟩ := lacks_mem.1 hx
    exact ⟨hh.2.1, x, h2, rfl, hh.2.2, h3⟩
  have old : ∀ (o : Option Int), topP key t p.qs o → (∀ q ∈ (lacks (hasK p (txL L)) all).map (fun x => (L, x)), hitP key t q → ∃ u, o = some u ∧ q.2.v ≤ u) → topP key t (p.qs ++ (lacks (hasK p (txL L)) all).map fun x => (L, x)) o := fun o ho hn => by
    rcases ho with ⟨e, h2⟩ | ⟨v, e, ⟨q, hq, hh, hv⟩, h2⟩
    · refine .inl ⟨e, fun q hq hh => ?_⟩
      rcases List.mem_append.1 hq with e2 | e2
      · exact h2 q e2 hh
      · obtain ⟨u, e3, _⟩ := hn q e2 hh
        rw [e] at e3; cases e3
    · refine .inr ⟨v, e, ⟨q, List.mem_append_left _ hq, hh, hv⟩, fun r hr2 hh2 => ?_⟩
      rcases List.mem_append.1 hr2 with e2 | e2
      · exact h2 r e2 hh2
      · obtain ⟨u, e3, h3⟩ := hn r e2 hh2
        rw [e] at e3
        injection e3 with e3
        omega
  by_cases hk : txL L = key
  · rw [if_pos hk]
    cases hl : look all t with
    | none =>
      have e : join (lookSt p.st key t) none = lookSt p.st key t := by cases lookSt p.st key t <;> rfl
      rw [e]
      refine old _ h0 fun q hq hh => ?_
      obtain ⟨_, x, hx, _, e2, _⟩ := hnew q hq hh
      have := look_of_mem hr.up hx
      rw [e2, hl] at this; cases this
    | some v =>
      have hx := mem_of_look hl
      by_cases hlb : lackB (hasK p (txL L)) ⟨t, v⟩ = true
      · -- it is given
        have hj : join (lookSt p.st key t) (some v) = some v := by
          cases ho : lookSt p.st key t with
          | none => rfl
          | some u =>
            rw [← hk, ← hasK_look] at ho
            have h2 : lackB (hasK p (txL L)) ⟨t, v⟩ = decide (u < v) := lackB_some ho
            rw [h2] at hlb
            have h3 := of_decide_eq_true hlb
            show some (max u v) = some v
            rw [Int.max_eq_right (by omega)]
        rw [hj]
        refine .inr ⟨v, rfl, ⟨(L, ⟨t, v⟩), List.mem_append_right _ (List.mem_map.2 ⟨_, lacks_mem.2 ⟨hx, hlb⟩, rfl⟩), ⟨hok _ hx, hk, rfl⟩, rfl⟩, fun q hq hh => ?_⟩
        rcases List.mem_append.1 hq with e2 | e2
        · rcases h0 with ⟨e3, h4⟩ | ⟨u, e3, _, h4⟩
          · exact absurd hh (h4 q e2)
          · have h5 := h4 q e2 hh
            rw [e3] at hj
            have h6 : some (max u v) = some v := hj
            injection h6 with h6
            omega
        · obtain ⟨_, x, hx2, rfl, e3, _⟩ := hnew q e2 hh
          exact Int.le_of_eq (look_up_mem hr.up hx2 hl e3)
      · -- it is there
        cases ho : lookSt p.st key t with
        | none =>
          exfalso
          rw [← hk, ← hasK_look] at ho
          exact hlb (lackB_none ho)
        | some u =>
          have ho2 := ho
          rw [← hk, ← hasK_look] at ho2
          have h2 : lackB (hasK p (txL L)) ⟨t, v⟩ = decide (u < v) := lackB_some ho2
          rw [h2] at hlb
          have h3 : ¬ u < v := fun e => hlb (decide_eq_true e)
          have hj : join (some u) (some v) = some u := by
            show some (max u v) = some u
            rw [Int.max_eq_left (by omega)]
          rw [hj]
          rw [ho] at h0
          refine old _ h0 fun q hq hh => ?_
          obtain ⟨_, x, hx2, rfl, e3, h4⟩ := hnew q hq hh
          exact ⟨u, rfl, by have := look_up_mem hr.up hx2 hl e3; show x.v ≤ u; omega⟩
  · rw [if_neg hk]
    refine old _ h0 fun q hq hh => ?_
    exact absurd (hnew q hq hh).1 hk
theorem find_giveTo (ps : List Peer) (ns : List ByteArray) (L : List Lab) (all : List Smp) (nm : ByteArray) : findP (giveTo ps ns L all) nm = (findP ps nm).map fun p : Peer => if isIn ns p.nm then giveF L all p else p := by
  rw [giveTo_map]
  exact find_mapAt (f := giveF L all) (fun _ => rfl) ps ns nm
theorem upP_giveTo (ps : List Peer) (ns : List ByteArray) (L : List Lab) (all : List Smp) (nm : ByteArray) : upP' (giveTo ps ns L all) nm = upP' ps nm := by
  unfold upP'
  rw [find_giveTo]
  cases findP ps nm with
  | none => rfl
  | some p =>
    simp only [Option.map_some]
    split <;> rfl
theorem liveK_giveTo (nodes : List Nod) (copies : Nat) (ps : List Peer) (ns : List ByteArray) (L : List Lab) (all : List Smp) (key : ByteArray) : liveK nodes copies (giveTo ps ns L all) key = liveK nodes copies ps key := by
  unfold liveK
  congr 1
  funext nm
  exact upP_giveTo ps ns L all nm
theorem getH_bad {h : Hse} {L : List Lab} (hc : chkL L ≠ 0) : getH h L = (chkL L, []) := by unfold getH; rw [if_pos hc]
theorem getH_none {h : Hse} {L : List Lab} (hc : chkL L = 0) (hg : getK h (txL L) = none) : getH h L = (13, []) := by unfold getH; rw [if_neg (by simpa using hc), hg]
theorem getH_some {h : Hse} {L : List Lab} {l : List Smp} (hc : chkL L = 0) (hg : getK h (txL L) = some l) : getH h L = (0, l) := by unfold getH; rw [if_neg (by simpa using hc), hg]
theorem mendH_bad {h : Hse} {L : List Lab} (hc : chkL L ≠ 0) : mendH h L = (h, chkL L) := by unfold mendH; rw [if_pos hc]
theorem mendH_none {h : Hse} {L : List Lab} (hc : chkL L = 0) (hg : getK h (txL L) = none) : mendH h L = (h, 13) := by unfold mendH; rw [if_neg (by simpa using hc), hg]
theorem mendH_some {h : Hse} {L : List Lab} {l : List Smp} (hc : chkL L = 0) (hg : getK h (txL L) = some l) : mendH h L = ({ h with ps := giveTo h.ps (liveK h.nodes h.copies h.ps (txL L)) L l }, 0) := by unfold mendH; rw [if_neg (by simpa using hc), hg]
/-- a key that is read: what each that is up and owns it has then is all that is read -/
theorem mend_get {puts : List Pt} {h : Hse} (k : HseI puts h) (hm : puts.length ≤ 22) (hrd : 1 ≤ h.read) (L : List Lab) : (mendH h L).2 = (getH h L).1 ∧ getH (mendH h L).1 L = getH h L := by
  by_cases hchk : chkL L = 0
  · cases hg : getK h (txL L) with
    | none =>
      rw [mendH_none hchk hg]
      exact ⟨by rw [getH_none hchk hg], rfl⟩
    | some all =>
      have hr := (getK_row k hm hg).1
      rw [labOf_tx hchk] at hr
      rw [mendH_some hchk hg]
      refine ⟨by rw [getH_some hchk hg], ?_⟩
      rw [getH_some hchk hg]
      have hg2 := hg
      rw [getK_eq] at hg2
      by_cases hlen : (liveK h.nodes h.copies h.ps (txL L)).length < h.read
      · rw [if_pos hlen] at hg2; cases hg2
      · rw [if_neg hlen] at hg2
        injection hg2 with hg2
        refine getH_some hchk ?_
        rw [getK_eq]
        have hlv : liveK h.nodes h.copies (giveTo h.ps (liveK h.nodes h.copies h.ps (txL L)) L all) (txL L) = liveK h.nodes h.copies h.ps (txL L) := liveK_giveTo _ _ _ _ _ _ _
        have e9 : ∀ (ps : List Peer), ps = giveTo h.ps (liveK h.nodes h.copies h.ps (txL L)) L all → (if (liveK h.nodes h.copies ps (txL L)).length < h.read then none else some (mergeAll (hasN ps (txL L)) (liveK h.nodes h.copies ps (txL L)) [])) = some (mergeAll (hasN ps (txL L)) (liveK h.nodes h.copies h.ps (txL L)) []) := fun ps e => by
          rw [show liveK h.nodes h.copies ps (txL L) = liveK h.nodes h.copies h.ps (txL L) from by rw [e]; exact hlv, if_neg hlen]
        refine (e9 _ rfl).trans ?_
        congr 1
        have k2 := give_house k (ns := liveK h.nodes h.copies h.ps (txL L)) hr
        have hup2 : ∀ nm, Up (hasN (giveTo h.ps (liveK h.nodes h.copies h.ps (txL L)) L all) (txL L) nm) := fun nm => hasN_up k2 hm (txL L) nm
        have hN : ∀ nm ∈ liveK h.nodes h.copies h.ps (txL L), ∀ t, look (hasN (giveTo h.ps (liveK h.nodes h.copies h.ps (txL L)) L all) (txL L) nm) t = look all t := fun nm hnm t => by
          obtain ⟨p, hf, hp⟩ := liveK_find k.hse (txL L) nm hnm
          have hpn := (findP_mem hf).2
          have e4 : hasN (giveTo h.ps (liveK h.nodes h.copies h.ps (txL L)) L all) (txL L) nm = hasK (giveF L all p) (txL L) := by
            unfold hasN
            rw [find_giveTo, hf]
            simp only [Option.map_some]
            rw [if_pos (isIn_iff.2 (by rw [hpn]; exact hnm))]
          rw [e4, hasK_look, give_look k hp hr, if_pos rfl, ← hasK_look]
          have e5 : hasN h.ps (txL L) nm = hasK p (txL L) := by unfold hasN; rw [hf]
          cases hl : look (hasK p (txL L)) t with
          | none => cases look all t <;> rfl
          | some v =>
            obtain ⟨u, h5, h6⟩ := mergeAll_ge (f := hasN h.ps (txL L)) (t := t) (v := v) (liveK h.nodes h.copies h.ps (txL L)) [] (fun nm _ => hasN_up k hm (txL L) nm) List.Pairwise.nil (.inr ⟨nm, hnm, by rw [e5]; exact hl⟩)
            rw [hg2] at h5
            rw [h5]
            show some (max v u) = some u
            rw [Int.max_eq_right h6]
        refine look_ext _ _ (mergeAll_up _ _ (fun nm _ => hup2 nm) List.Pairwise.nil) hr.up fun t => ?_
        cases hl : look all t with
        | none =>
          cases hm2 : look (mergeAll (hasN (giveTo h.ps (liveK h.nodes h.copies h.ps (txL L)) L all) (txL L)) (liveK h.nodes h.copies h.ps (txL L)) []) t with
          | none => rfl
          | some v =>
            rcases mergeAll_some _ _ (fun nm _ => hup2 nm) List.Pairwise.nil hm2 with e | ⟨nm, hnm, e⟩
            · cases e
            · rw [hN nm hnm, hl] at e; cases e
        | some v =>
          obtain ⟨nm, hnm⟩ : ∃ nm, nm ∈ liveK h.nodes h.copies h.ps (txL L) := by
            cases hl2 : liveK h.nodes h.copies h.ps (txL L) with
            | nil => rw [hl2] at hlen; simp at hlen; omega
            | cons nm _ => exact ⟨nm, List.mem_cons_self⟩
          obtain ⟨u, h5, h6⟩ := mergeAll_ge (t := t) (v := v) (liveK h.nodes h.copies h.ps (txL L)) [] (fun nm _ => hup2 nm) List.Pairwise.nil (.inr ⟨nm, hnm, by rw [hN nm hnm]; exact hl⟩)
          rw [h5]
          rcases mergeAll_some _ _ (fun nm _ => hup2 nm) List.Pairwise.nil h5 with e | ⟨nm2, hnm2, e⟩
          · cases e
          · rw [hN nm2 hnm2, hl] at e; exact e.symm
  · rw [mendH_bad hchk]
    exact ⟨by rw [getH_bad hchk], rfl⟩
/-- keys of what is gathered -/
theorem joinS_keys (st : StD) (y : Ser) (k : ByteArray) : k ∈ (joinS st y).map (·.1) ↔ k ∈ st.map (·.1) ∨ txL y.1 = k := by
  have hput : ∀ z : Ser, k ∈ (putSt st (txL y.1) z).map (·.1) ↔ k ∈ st.map (·.1) ∨ txL y.1 = k := fun z => by
    rcases put_keys st (txL y.1) z with ⟨h1, e⟩ | ⟨_, e⟩
    · rw [e]
      exact ⟨.inl, fun h => h.elim id fun e2 => by rw [← e2]; exact h1⟩
    · rw [e, List.mem_append, List.mem_singleton]
      exact ⟨fun h => h.elim .inl fun e2 => .inr e2.symm, fun h => h.elim .inl fun e2 => .inr e2.symm⟩
  unfold joinS
  cases findSt st (txL y.1) <;> exact hput _
theorem joins_keys : ∀ (l : List Ser) (st : StD) (k : ByteArray), k ∈ (l.foldl joinS st).map (·.1) ↔ k ∈ st.map (·.1) ∨ ∃ y ∈ l, txL y.1 = k
  | [], st, k => ⟨.inl, fun h => h.elim id fun ⟨_, h, _⟩ => absurd h (List.not_mem_nil)⟩
  | y :: l, st, k => by
    rw [List.foldl_cons, joins_keys l, joinS_keys]
    constructor
    · rintro ((h | h) | ⟨z, hz, e⟩)
      · exact .inl h
      · exact .inr ⟨y, List.mem_cons_self, h⟩
      · exact .inr ⟨z, List.mem_cons_of_mem _ hz, e⟩
    · rintro (h | ⟨z, hz, e⟩)
      · exact .inl (.inl h)
      · rcases List.mem_cons.1 hz with e2 | e2
        · rw [e2] at e; exact .inl (.inr e)
        · exact .inr ⟨z, e2, e⟩
theorem gather_keys (ps : List Peer) (names : List ByteArray) (k : ByteArray) : k ∈ (gatherH ps names).map (·.1) ↔ ∃ nm ∈ names, ∃ y ∈ serOf ps nm, txL y.1 = k := by
  refine snocRec (motive := fun names => k ∈ (gatherH ps names).map (·.1) ↔ ∃ nm ∈ names, ∃ y ∈ serOf ps nm, txL y.1 = k) ?_ (fun names nm ih => ?_) names
  · exact ⟨fun h => absurd h (List.not_mem_nil), fun ⟨_, h, _⟩ => absurd h (List.not_mem_nil)⟩
  · rw [gather_snoc, joins_keys, ih]
    constructor
    · rintro (⟨n, hn, h⟩ | h)
      · exact ⟨n, List.mem_append_left _ hn, h⟩
      · exact ⟨nm, by simp, h⟩
    · rintro ⟨n, hn, h⟩
      rcases List.mem_append.1 hn with e | e
      · exact .inl ⟨n, e, h⟩
      · rw [List.mem_singleton] at e
        rw [e] at h
        exact .inr h
theorem serOf_keys {puts : List Pt} {h : Hse} (k : HseI puts h) (hm : puts.length ≤ 22) (nm key : ByteArray) : (∃ y ∈ serOf h.ps nm, txL y.1 = key) ↔ ∃ p, findP h.ps nm = some p ∧ p.up = true ∧ hasKey p key := by
  unfold serOf
  cases hf : findP h.ps nm with
  | none => exact ⟨fun ⟨_, h, _⟩ => absurd h (List.not_mem_nil), fun ⟨_, h, _⟩ => by cases h⟩
  | some p =>
    have hpk := k.peer hm (findP_mem hf).1
    simp only []
    by_cases hu : p.up = true
    · rw [if_pos hu]
      constructor
      · rintro ⟨y, hy, e⟩
        obtain ⟨j, hj, e2⟩ := List.getElem_of_mem hy
        exact ⟨p, rfl, hu, (hasKey_iff hpk.ok key).2 ⟨j, hj, by rw [at_eq hj, e2, e]⟩⟩
      · rintro ⟨q, e, _, hk⟩
        injection e with e
        subst e
        obtain ⟨j, hj, e2⟩ := (hasKey_iff hpk.ok key).1 hk
        exact ⟨_, at_mem hj, e2⟩
    · rw [if_neg hu]
      exact ⟨fun ⟨_, h, _⟩ => absurd h (List.not_mem_nil), fun ⟨q, e, h2, _⟩ => by injection e with e; rw [← e] at h2; exact absurd h2 hu⟩
theorem hasKey_look {p : Peer} (h : PeerOk p) (key : ByteArray) : hasKey p key ↔ ∃ t, lookSt p.st key t ≠ none := by
  rw [← key_iff h.inv key]
  unfold hasKey
  exact ⟨fun hk => Classical.byContradiction fun e => hk (find_none_iff.2 e), fun hk e => find_none_iff.1 e hk⟩
theorem allH_len (h : Hse) : (allH h).length = (gatherH h.ps (h.nodes.map fun x : Nod => x.nm)).length := by unfold allH; rw [allN_len]
theorem mend_keys {puts : List Pt} {h : Hse} (k : HseI puts h) (hm : puts.length ≤ 22) (L : List Lab) : (allH h).length ≤ (allH (mendH h L).1).length := by
  have k2 := mendH_sub k hm L
  rw [allH_len, allH_len]
  have h1 := (gather_ok k hm (h.nodes.map fun x : Nod => x.nm)).keys
  have h2 : ((gatherH h.ps (h.nodes.map fun x : Nod => x.nm)).map (·.1)).length ≤ ((gatherH (mendH h L).1.ps ((mendH h L).1.nodes.map fun x : Nod => x.nm)).map (·.1)).length := nodup_le h1 fun key hkey => by
    rw [gather_keys] at hkey ⊢
    obtain ⟨nm, hnm, hy⟩ := hkey
    obtain ⟨p, hf, hu, hk⟩ := (serOf_keys k hm nm key).1 hy
    have hn : (mendH h L).1.nodes = h.nodes := by
      unfold mendH
      split
      · rfl
      · cases getK h (txL L) <;> rfl
    rw [hn]
    refine ⟨nm, hnm, (serOf_keys k2 hm nm key).2 ?_⟩
    unfold mendH
    by_cases hchk : chkL L = 0
    · rw [if_neg (by simpa using hchk)]
      cases hg : getK h (txL L) with
      | none => exact ⟨p, hf, hu, hk⟩
      | some all =>
        have hr := (getK_row k hm hg).1
        rw [labOf_tx hchk] at hr
        have hp := (findP_mem hf).1
        refine ⟨_, by show findP (giveTo h.ps _ L all) nm = _; rw [find_giveTo, hf]; rfl, ?_, ?_⟩
        · dsimp only
          split
          · exact hu
          · exact hu
        · dsimp only
          split
          · have hsub := give_sub (k.sub p hp) k.ok (L := L) all hr.up hr.mem p.qs (k.sub p hp) (fun q hq hn => absurd hq hn) fun q hq => hq
            have hok : PeerOk (giveF L all p) := ⟨Nat.le_trans hsub.len hm, fun q hq => (k.ok q (hsub.mem hq)).2⟩
            obtain ⟨t, ht⟩ := (hasKey_look (k.peer hm hp).ok key).1 hk
            refine (hasKey_look hok key).2 ⟨t, ?_⟩
            rw [give_look k hp hr]
            split
            · cases hl : lookSt p.st key t with
              | none => exact absurd hl ht
              | some v => cases look all t <;> simp [join]
            · exact ht
          · exact hk
    · rw [if_pos hchk]
      exact ⟨p, hf, hu, hk⟩
  rw [List.length_map, List.length_map] at h2
  exact h2
end Go.Proofs.YtihjgbhnlejhfaaGreatDoor
namespace Go.Proofs.YtihjgbhnlejhfaaGreatDoor
open Go.RowKit Go.ChangeMaps

set_option maxRecDepth 1000000 in
set_option maxHeartbeats 16000000 in
theorem houseMends_any (W0 : World) (A0 : Option Addr) (c0 : Nat) (L : List NodE) (ok0 : ∀ e ∈ L, NodOk W0 e) (_lc0 : L.length ≤ c0) (_cm0 : c0 ≤ maxLen) (_nil0 : A0 = none → c0 = 0) (has0 : Has W0 W0.heap.size A0 (nodCs L)) (_reach0 : L.length * 40 ≤ 140737488351232)
    (C : Int) (_bC : -9223372036854775808 ≤ C ∧ C ≤ 9223372036854775807) (Wr : Int) (_bW : -9223372036854775808 ≤ Wr ∧ Wr ≤ 9223372036854775807) (R : Int) (_bR : -9223372036854775808 ≤ R ∧ R ≤ 9223372036854775807)
    (A4 : Option Addr) (c4 : Nat) (l : List StpE) (ok4 : ∀ e ∈ l, e.good W0) (lc4 : l.length ≤ c4) (cm4 : c4 ≤ maxLen) (_nil4 : A4 = none → c4 = 0) (has4 : Has W0 W0.heap.size A4 (stpCs l)) (_reach4 : l.length * 112 ≤ 140737488351232)
    (A5 : Option Addr) (c5 : Nat) (ask : List Lab) (ok5 : ∀ e ∈ ask, LabOk e) (lc5 : ask.length ≤ c5) (cm5 : c5 ≤ maxLen) (nil5 : A5 = none → c5 = 0) (has5 : Has W0 W0.heap.size A5 (labCs ask)) (_reach5 : ask.length * 32 ≤ 140737488351232) (tS : SgAt W0) :
    Calls Tryz.prog 7 #[.slice A0 L.length c0, .int .i64 C, .int .i64 Wr, .int .i64 R, .slice A4 l.length c4, .slice A5 ask.length c5] W0 (R1 (.bool true) (Below W0.heap.size W0)) := by
  obtain ⟨n0, hn0⟩ : ∃ n0, L.length = n0 := ⟨_, rfl⟩
  obtain ⟨n, hn⟩ : ∃ n, l.length = n := ⟨_, rfl⟩
  obtain ⟨an, han⟩ : ∃ an, ask.length = an := ⟨_, rfl⟩
  have hb0 : Below W0.heap.size W0 W0 := Below.refl _ _
  have hHs := Lib.hid (houses_any W0)
  have hNew := Lib.hid (fun (w1 : World) (hb1 : Below W0.heap.size W0 w1) => hnew_any A0 n0 c0 L hn0 (by omega) C Wr R w1 (has0.next hb1) (fun e he => (ok0 e he).next hb1))
  have Hok4 := Lib.hid (fun e (he : e ∈ l) => (ok4 e he).inn)
  have Hhas4 := Lib.hid has4
  have Hn := Lib.hid hn
  have Hok5 := Lib.hid ok5
  have Han := Lib.hid han
  have Hlc5 := Lib.hid (show an ≤ c5 ∧ an ≤ maxLen from ⟨by omega, by omega⟩)
  have Hnil5 := Lib.hid (show A5 = none → an = 0 ∧ c5 = 0 from fun e => by have h1 := nil5 e; omega)
  have Hhas5 := Lib.hid has5
  have HS := Lib.hid tS
  have Hb0 := Lib.hid hb0
  have hnl : n ≤ maxLen := by omega
  rw [hn0, hn, han]
  clear ok0 has0 ok4 has4 hn0 hn ok5 han lc5 cm5 nil5 has5 tS hb0 lc4 cm4
  go_enter Tryz.func7, Tryz.ntmps7
  go_wp2_with fail
  refine hHs.out.mono ?_
  rintro e w1 ⟨rfl, hb1⟩
  have hb01 := bnext Hb0.out hb1
  have hN1 := Lib.hid (hNew.out w1 hb01)
  have hb01 := Lib.hid hb01
  clear hb1 hNew hHs
  go_wp2_with fail
  refine hN1.out.mono ?_
  rintro e w2 ⟨v, rfl, hc, hb2⟩
  have hb02 := Lib.hid (bnext hb01.out hb2)
  rcases hc with ⟨he, rfl⟩ | ⟨hE, hb, rfl, hM⟩
  · have f1 : (newE (L.map NodE.x) C Wr R != 0) = true := by rw [bne_iff_ne]; exact he
    obtain ⟨er, her⟩ : ∃ er, newE (L.map NodE.x) C Wr R = er := ⟨_, rfl⟩
    rw [her] at f1 ⊢
    clear he her hb2
    go_wp2_with fail
    go_ret
    exact R1.mk rfl hb02.out
  · by_cases h20 : (18 : Int) < (n : Int)
    · clear hE hM hb2
      go_wp2_with fail
      go_ret
      exact R1.mk rfl hb02.out
    · obtain ⟨hI, hr20, hw20, hwr1, hrd1, hcC, hcW, _⟩ := newH_ok hE
      have hsb : 0 < w1.heap.size := Nat.lt_of_lt_of_le HS.out.1 hb01.out.size
      obtain ⟨h0, hh0⟩ : ∃ h0, newH (L.map NodE.x) C Wr R = h0 := ⟨_, rfl⟩
      rw [hh0] at hM hI hr20 hw20 hwr1 hrd1 hcC hcW
      have Hrun := Lib.hid (fun (j : Nat) (_hj : j ≤ n) => run_sub hI ((l.map StpE.s).take j) (by rw [List.length_take]; omega) (fun a ha => by
        obtain ⟨e, he, rfl⟩ := List.mem_map.1 (List.mem_of_mem_take ha)
        exact (Hok4.out e he).x))
      have Hsame := Lib.hid (fun (j : Nat) => runH_same ((l.map StpE.s).take j) h0)
      have Hplen := Lib.hid (fun (j : Nat) (_hj : j ≤ n) => show (putsOf ((l.map StpE.s).take j)).length ≤ j from Nat.le_trans (putsOf_len _) (by rw [List.length_take]; exact Nat.min_le_left _ _))
      have hM := Lib.hid hM
      have HcC := Lib.hid hcC
      have HcW := Lib.hid hcW
      have hn20 : n ≤ 18 := by omega
      have ho2 := Lib.hid (OutH.of hb2 (Nat.le_refl _))
      clear hE hI hb2 hh0 hcC hcW
      go_wp2_with fail
      go_loopw [61] (fun i wr => ∃ j : Nat, j ≤ n ∧ i = .int .i64 (j : Nat) ∧ Hid (HsM wr w1.heap.size hb (runH h0 ((l.map StpE.s).take j))) ∧ Hid (OutH w1.heap.size w1 wr)) (fun i _ => n + 5 - (intOf i).toNat)
      case atStart => exact ⟨0, by omega, rfl, Lib.hid (by rw [List.take_zero]; exact hM.out), ho2⟩
      case round =>
        obtain ⟨j, hj, rfl, hMj, hoj⟩ := hrel
        have hbj := Lib.hid (hb01.out.trans (hoj.out.below.mono hb01.out.size))
        have hbs : w1.heap.size ≤ wr.heap.size := hoj.out.size
        by_cases hlt : (j : Int) < (n : Int)
        · have hjl : j < l.length := by rw [Hn.out]; omega
          obtain ⟨ad, rfl, g0, g1, g2, g3, g4, g5, g6, g7⟩ := stp_cells (Hhas4.out.next hbj.out) hjl
          have hjs : j < (l.map StpE.s).length := by rw [List.length_map]; exact hjl
          have hat : at_ (l.map StpE.s) j = (at_ l j).s := by rw [at_eq hjs, List.getElem_map, ← at_eq hjl]
          have hnx : runH h0 ((l.map StpE.s).take (j + 1)) = (doneH (runH h0 ((l.map StpE.s).take j)) (at_ l j).s).1 := by rw [take_snoc hjs, runH_snoc, hat]
          have hein := (Hok4.out _ (at_mem hjl)).next hbj.out
          obtain ⟨e, he⟩ : ∃ e, at_ l j = e := ⟨_, rfl⟩
          rw [he] at g0 g1 g2 g3 g4 g5 g6 g7 hnx hein
          obtain ⟨tn, htn⟩ : ∃ tn, e.t.l.length = tn := ⟨_, rfl⟩
          obtain ⟨np, hnp⟩ : ∃ np, e.node.t.l.length = np := ⟨_, rfl⟩
          rw [htn] at g2
          rw [hnp] at g7
          have q0 : (0 : Int) ≤ (j : Int) := by omega
          obtain ⟨W8, hW8⟩ : ∃ W8, wr.alloc (.cells #[.int .i64 e.kind, .int .i64 e.keep, .slice e.t.A tn e.t.c, .int .i64 e.x.t, .int .i64 e.x.v, .string e.nm, .string e.node.nm, .slice e.node.t.A np e.node.t.c] 38) = W8 := ⟨_, rfl⟩
          obtain ⟨q8, hq8⟩ : ∃ q8, wr.heap.size = q8 := ⟨_, rfl⟩
          have hb8 : Below wr.heap.size wr W8 := by rw [← hW8]; exact one_allocB _ _
          have k8 : Blk W8 q8 38 #[.int .i64 e.kind, .int .i64 e.keep, .slice e.t.A tn e.t.c, .int .i64 e.x.t, .int .i64 e.x.v, .string e.nm, .string e.node.nm, .slice e.node.t.A np e.node.t.c] := by rw [← hW8]; exact Blk.newD _ _ _ _ hq8
          have d0 : W8.cell? ⟨q8, 0, none⟩ = some (.int .i64 e.kind) := k8.cell 0
          have d1 : W8.cell? ⟨q8, 1, none⟩ = some (.int .i64 e.keep) := k8.cell 1
          have d2 : W8.cell? ⟨q8, 2, none⟩ = some (.slice e.t.A tn e.t.c) := k8.cell 2
          have d3 : W8.cell? ⟨q8, 3, none⟩ = some (.int .i64 e.x.t) := k8.cell 3
          have d4 : W8.cell? ⟨q8, 4, none⟩ = some (.int .i64 e.x.v) := k8.cell 4
          have d5 : W8.cell? ⟨q8, 5, none⟩ = some (.string e.nm) := k8.cell 5
          have d6 : W8.cell? ⟨q8, 6, none⟩ = some (.string e.node.nm) := k8.cell 6
          have d7 : W8.cell? ⟨q8, 7, none⟩ = some (.slice e.node.t.A np e.node.t.c) := k8.cell 7
          have hpl := Hplen.out j hj
          have hD := Lib.hid (done_any w1.heap.size hb (putsOf ((l.map StpE.s).take j)) (runH h0 ((l.map StpE.s).take j)) (by omega) e tn np htn hnp W8 ⟨hMj.out.next hb8, Hrun.out j hj, by rw [(Hsame.out j).2.2]; exact hr20, by rw [(Hsame.out j).2.1]; exact hw20⟩ (Nat.le_trans hbs hb8.size)
            ((hein.next ((Below.mono hb8 hbj.out.size))).more hb01.out.size) (HS.out.next (bnext hbj.out hb8)) hsb)
          have hoW := Lib.hid (hoj.out.trans (OutH.of hb8 hbs))
          have Hnx := Lib.hid hnx
          clear hjl hjs hat hnx hein he htn hnp hb8 k8 hpl
          go_upto_region 9 with fail
          (try rw [hW8]); (try rw [hq8])
          clear hW8 hq8 g0 g1 g2 g3 g4 g5 g6 g7
          go_wp2_with fail
          refine hD.out.mono ?_
          rintro e9 w9 ⟨rfl, hM9, hO9⟩
          have hM9 := Lib.hid (by rw [← Hnx.out] at hM9; exact hM9)
          have hO9 := Lib.hid (hoW.out.trans hO9)
          clear d0 d1 d2 d3 d4 d5 d6 d7
          go_wp2_with fail
          go_roundw
          case rel => exact ⟨j + 1, by omega, by go_num, hM9, hO9⟩
          case measure => simp [intOf]; omega
        · obtain rfl : n = j := by omega
          have hz := hMj.out
          have hin := Hrun.out n (by omega)
          have hsm := Hsame.out n
          have hpl := Hplen.out n (by omega)
          rw [show (l.map StpE.s).take n = l.map StpE.s by rw [List.take_of_length_le]; rw [List.length_map, Hn.out]; exact Nat.le_refl _] at hz hin hsm hpl
          obtain ⟨hr, hhr⟩ : ∃ hr, runH h0 (l.map StpE.s) = hr := ⟨_, rfl⟩
          rw [hhr] at hz hin hsm
          obtain ⟨mb, NA, nc, NL, es, clock, kvs, ls, hh⟩ := hz
          have hm22 : (putsOf (l.map StpE.s)).length ≤ 22 := by omega
          have hrr : hr.read ≤ 20 := by rw [hsm.2.2]; exact hr20
          have hrr1 : 1 ≤ hr.read := by rw [hsm.2.2]; exact hrd1
          obtain ⟨e1, e2⟩ := mend_get hin hm22 hrr1 ask
          have e3 := mend_keys hin hm22 ask
          have hin2 := mendH_sub hin hm22 ask
          have hsm2 : (mendH hr ask).1.read = hr.read := by
            unfold mendH
            split
            · rfl
            · cases getK hr (txL ask) <;> rfl
          have hG1 := Lib.hid (hGet_any w1.heap.size hb mb NA nc NL es clock kvs ls _ hr hin hm22 hrr A5 an c5 ask Han.out Hlc5.out.2 Hok5.out wr (Hhas5.out.next hbj.out) hh (HS.out.next hbj.out))
          have hA1 := Lib.hid (fun (w3 : World) (hb3 : Below wr.heap.size wr w3) => hall_any w1.heap.size hb mb NA nc NL es clock kvs ls _ hr hin hm22 w3 (hh.next hb3) (HS.out.next (bnext hbj.out hb3)))
          have hMd := Lib.hid (fun (w3 : World) (hb3 : Below wr.heap.size wr w3) => hmend_any w1.heap.size hb mb NA nc NL es clock kvs ls _ hr hin hm22 hrr A5 an c5 ask Han.out Hlc5.out.2 Hnil5.out Hok5.out w3 (hh.next hb3) (Nat.le_trans hbs hb3.size) ((Hhas5.out.keep fun a ha => (bnext hbj.out hb3).cell ha).more hb01.out.size) (HS.out.next (bnext hbj.out hb3)) hsb)
          have hG2 := Lib.hid (fun (w5 : World) (hO : Below W0.heap.size W0 w5) (h5 : HsAt w5 w1.heap.size hb mb NA nc NL es clock kvs ls (mendH hr ask).1) => hGet_any w1.heap.size hb mb NA nc NL es clock kvs ls _ (mendH hr ask).1 hin2 hm22 (by rw [hsm2]; exact hrr) A5 an c5 ask Han.out Hlc5.out.2 Hok5.out w5 (Hhas5.out.next hO) h5 (HS.out.next hO))
          have hA2 := Lib.hid (fun (w5 : World) (hO : Below W0.heap.size W0 w5) (h5 : HsAt w5 w1.heap.size hb mb NA nc NL es clock kvs ls (mendH hr ask).1) => hall_any w1.heap.size hb mb NA nc NL es clock kvs ls _ (mendH hr ask).1 hin2 hm22 w5 h5 (HS.out.next hO))
          have hlA1 := (gather_ok hin hm22 (hr.nodes.map fun x : Nod => x.nm)).few hin.ok
          have hlA2 := (gather_ok hin2 hm22 ((mendH hr ask).1.nodes.map fun x : Nod => x.nm)).few hin.ok
          rw [← allH_len] at hlA1 hlA2
          rw [e1] at hMd
          have hG2 : Hid (∀ (w5 : World), Below W0.heap.size W0 w5 → HsAt w5 w1.heap.size hb mb NA nc NL es clock kvs ls (mendH hr ask).1 → Calls Tryz.prog 14 #[.pointer (some ⟨hb, 0, none⟩), .slice A5 an c5] w5 (RV (GetHP (getH hr ask) w5))) := Lib.hid (fun w5 hO h5 => by have h1 := hG2.out w5 hO h5; rw [e2] at h1; exact h1)
          obtain ⟨h2, hh2⟩ : ∃ h2, (mendH hr ask).1 = h2 := ⟨_, rfl⟩
          rw [hh2] at hMd hG2 hA2 e3 hlA2
          obtain ⟨⟨f, la⟩, hgr⟩ : ∃ r, getH hr ask = r := ⟨_, rfl⟩
          rw [hgr] at hG1 hMd hG2
          obtain ⟨m1, hm1⟩ : ∃ m1, (allH hr).length = m1 := ⟨_, rfl⟩
          obtain ⟨m2, hm2⟩ : ∃ m2, (allH h2).length = m2 := ⟨_, rfl⟩
          rw [hm1] at e3 hlA1
          rw [hm2] at e3 hlA2
          have Hm1 := Lib.hid hm1
          have Hm2 := Lib.hid hm2
          have b1 : (m1 : Int) ≤ (m2 : Int) := by omega
          have b2 := hlA1.1
          have b3 := hlA2.1
          have Hh := Lib.hid hh
          clear hin hsm hpl hhr hh e1 e2 e3 hin2 hsm2 hlA1 hlA2 hh2 hgr hm1 hm2 hrr hrr1
          go_wp2_with fail
          refine hG1.out.mono ?_
          rintro e9 w3 ⟨v, rfl, A6, n6, c6, rfl, hl6, ho6, hb3⟩
          have hA1 := Lib.hid (hA1.out w3 hb3)
          have Hl6 := Lib.hid hl6
          have Ho6 := Lib.hid ho6
          have hb3 := Lib.hid hb3
          clear hl6 ho6
          go_wp2_with fail
          refine hA1.out.mono ?_
          rintro e9 w4 ⟨v, rfl, A7, n7, c7, es7, rfl, hn7, ho7, hR7, hb4⟩
          rw [Hm1.out] at hn7
          subst hn7
          have hb34 := bnext hb3.out hb4
          have hMd4 := Lib.hid (hMd.out w4 hb34)
          have Ho6 := Lib.hid (own_next Ho6.out hb4)
          have hb34 := Lib.hid hb34
          clear ho7 hR7 hb4 hMd
          go_wp2_with fail
          refine hMd4.out.mono ?_
          rintro e9 w5 ⟨rfl, h5, hO5, _⟩
          have hbw5 : Below W0.heap.size W0 w5 := by
            have h1 : OutH w1.heap.size w1 w5 := hoj.out.trans ((OutH.of hb34.out hbs).trans hO5)
            exact hb01.out.trans (h1.below.mono hb01.out.size)
          have hG5 := Lib.hid (hG2.out w5 hbw5 h5)
          have Ho6 := Lib.hid (hO5.own Ho6.out (by unfold HsKind StKind; decide))
          have H5 := Lib.hid h5
          have Hbw5 := Lib.hid hbw5
          clear h5 hO5 hbw5 hG2
          go_wp2_with fail
          refine hG5.out.mono ?_
          rintro e9 w6 ⟨v, rfl, A8, n8, c8, rfl, hl8, ho8, hb6⟩
          have hSm := same_any A6 A8 n6 n8 c6 c8 la la Hl6.out hl8 (Nat.le_trans (own_len Ho6.out).1 (own_len Ho6.out).2) (Nat.le_trans (own_len ho8).1 (own_len ho8).2) w6 (Has.of_own (own_next Ho6.out hb6)) (Has.of_own ho8)
          rw [decide_eq_true rfl] at hSm
          have hSm := Lib.hid hSm
          have hA6 := Lib.hid (fun (w7 : World) (hb7 : Below w6.heap.size w6 w7) => hA2.out w7 (bnext Hbw5.out (bnext hb6 hb7)) (H5.out.next (bnext hb6 hb7)))
          have Hb6 := Lib.hid hb6
          clear hl8 ho8 hb6
          go_wp2_with fail
          refine hSm.out.mono ?_
          rintro e9 w7 ⟨rfl, nd, rfl⟩
          by_cases hf : f = 0
          · subst hf
            have hA7 := Lib.hid (hA6.out (w6.drewN nd) (below_drewN (Below.refl _ _) nd))
            clear hA6
            go_wp2_with fail
            refine hA7.out.mono ?_
            rintro e9 w8 ⟨v, rfl, A9, n9, c9, es9, rfl, hn9, ho9, hR9, hb8⟩
            rw [Hm2.out] at hn9
            subst hn9
            have hb8 := Lib.hid hb8
            clear ho9 hR9
            go_wp2_with fail
            go_ret
            exact R1.mk rfl (bnext Hbw5.out (bnext Hb6.out (bnext (below_drewN (Below.refl _ _) nd) hb8.out)))
          · have f1 : (f != 0) = true := by rw [bne_iff_ne]; exact hf
            go_wp2_with fail
            go_ret
            exact R1.mk rfl (bnext Hbw5.out (bnext Hb6.out (below_drewN (Below.refl _ _) nd)))
end Go.Proofs.YtihjgbhnlejhfaaGreatDoor
