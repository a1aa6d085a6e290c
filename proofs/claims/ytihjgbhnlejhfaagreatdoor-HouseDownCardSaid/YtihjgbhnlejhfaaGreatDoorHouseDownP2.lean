/- Texts of the proof of HouseDown, joined (by merge.py). Conditions: each theorem's own hypotheses. -/
import Derived.Test.YtihjgbhnlejhfaaGreatDoorHouseAcksP40
import Derived.Test.YtihjgbhnlejhfaaGreatDoorHouseAcksP43
import Derived.Test.YtihjgbhnlejhfaaGreatDoorHouseDownP1
namespace Go.Proofs.YtihjgbhnlejhfaaGreatDoor
open Go.Sort

theorem look_up_mem {l : List Smp} (h : Up l) {x : Smp} (hx : x ∈ l) {t v : Int} (hl : look l t = some v) (e : x.t = t) : x.v = v := by
  have h1 := look_of_mem h hx
  rw [e, hl] at h1
  injection h1 with h1
  exact h1.symm
theorem lacks_mem {had all : List Smp} {x : Smp} : x ∈ lacks had all ↔ x ∈ all ∧ lackB had x = true := by rw [lacks_eq, List.mem_filter]
/-- what a peer tells of a key and a time when it was given what it lacked -/
theorem give_look {puts : List Pt} {h : Hse} (k : HseI puts h) {p : Peer} (hp : p ∈ h.ps) {L : List Lab} {all : List Smp} (hr : PutRow puts L all) (key : ByteArray) (t : Int) :
    lookSt (giveF L all p).st key t = if txL L = key then join (lookSt p.st key t) (look all t) else lookSt p.st key t := by
  have hsub := give_sub (k.sub p hp) k.ok (L := L) all hr.up hr.mem p.qs (k.sub p hp) (fun q hq hn => absurd hq hn) fun q hq => hq
  have hin : ∀ q ∈ (giveF L all p).qs, SmpIn q.2 := fun q hq => (k.ok q (hsub.mem hq)).2
  have h1 := peer_top hin key t
  have h0 := peer_top (fun q hq => (k.ok q ((k.sub p hp).mem hq)).2) key t
  refine topP_ext h1 (qs := (giveF L all p).qs) ?_ fun _ => Iff.rfl
  have hqs : (giveF L all p).qs = p.qs ++ (lacks (hasK p (txL L)) all).map fun x => (L, x) := rfl
  rw [hqs]
  have hok : ∀ x ∈ all, okP (L, x) := fun x hx => (k.ok _ (hr.mem x hx)).1
  -- what is new and tells of the key and the time
  have hnew : ∀ q ∈ (lacks (hasK p (txL L)) all).map (fun x => (L, x)), hitP key t q → txL L = key ∧ ∃ x ∈ all, q = (L, x) ∧ x.t = t ∧ lackB (hasK p (txL L)) x = true := fun q hq hh => by
    obtain ⟨x, hx, rfl⟩ := List.mem_map.1 hq
    obtain ⟨h2, h3⟩ := lacks_mem.1 hx
    exact ⟨hh.2.1, x, h2, rfl, hh.2.2, h3⟩
  have old : ∀ (o : Option Int), topP key t p.qs o → (∀ q ∈ (lacks (hasK p (txL L)) all).map (fun x => (L, x)), hitP key t q → ∃ u, o = some u ∧ q.2.v ≤ u) → topP key t (p.qs ++ (lacks (hasK p (txL L)) all).map fun x => (L, x)) o := fun o ho hn => by
    rcases ho with ⟨e, h2⟩ | ⟨v, e, ⟨q, hq, hh, hv⟩, h2⟩
    · refine .inl ⟨e, fun q hq hh => ?_⟩
      rcases List.mem_append.1 hq with e2 | e2
      · exact h2 q e2 hh
      · obtain ⟨u, e3, _⟩ := hn q e2 hh
        rw [e] at e3; cases e3
    · refine .inr ⟨v, e, ⟨q, List.mem_append_left _ hq, hh, hv⟩, fun r hr2 hh2 => ?_⟩
      rcases List.mem_append.1 hr2 with e2 | e2
      · exact h2 r e2 hh2
      · obtain ⟨u, e3, h3⟩ := hn r e2 hh2
        rw [e] at e3
        injection e3 with e3
        omega
  by_cases hk : txL L = key
  · rw [if_pos hk]
    cases hl : look all t with
    | none =>
      have e : join (lookSt p.st key t) none = lookSt p.st key t := by cases lookSt p.st key t <;> rfl
      rw [e]
      refine old _ h0 fun q hq hh => ?_
      obtain ⟨_, x, hx, _, e2, _⟩ := hnew q hq hh
      have := look_of_mem hr.up hx
      rw [e2, hl] at this; cases this
    | some v =>
      have hx := mem_of_look hl
      by_cases hlb : lackB (hasK p (txL L)) ⟨t, v⟩ = true
      · -- it is given
        have hj : join (lookSt p.st key t) (some v) = some v := by
          cases ho : lookSt p.st key t with
          | none => rfl
          | some u =>
            rw [← hk, ← hasK_look] at ho
            have h2 : lackB (hasK p (txL L)) ⟨t, v⟩ = decide (u < v) := lackB_some ho
            rw [h2] at hlb
            have h3 := of_decide_eq_true hlb
            show some (max u v) = some v
            rw [Int.max_eq_right (by omega)]
        rw [hj]
        refine .inr ⟨v, rfl, ⟨(L, ⟨t, v⟩), List.mem_append_right _ (List.mem_map.2 ⟨_, lacks_mem.2 ⟨hx, hlb⟩, rfl⟩), ⟨hok _ hx, hk, rfl⟩, rfl⟩, fun q hq hh => ?_⟩
        rcases List.mem_append.1 hq with e2 | e2
        · rcases h0 with ⟨e3, h4⟩ | ⟨u, e3, _, h4⟩
          · exact absurd hh (h4 q e2)
          · have h5 := h4 q e2 hh
            rw [e3] at hj
            have h6 : some (max u v) = some v := hj
            injection h6 with h6
            omega
        · obtain ⟨_, x, hx2, rfl, e3, _⟩ := hnew q e2 hh
          exact Int.le_of_eq (look_up_mem hr.up hx2 hl e3)
      · -- it is there
        cases ho : lookSt p.st key t with
        | none =>
          exfalso
          rw [← hk, ← hasK_look] at ho
          exact hlb (lackB_none ho)
        | some u =>
          have ho2 := ho
          rw [← hk, ← hasK_look] at ho2
          have h2 : lackB (hasK p (txL L)) ⟨t, v⟩ = decide (u < v) := lackB_some ho2
          rw [h2] at hlb
          have h3 : ¬ u < v := fun e => hlb (decide_eq_true e)
          have hj : join (some u) (some v) = some u := by
            show some (max u v) = some u
            rw [Int.max_eq_left (by omega)]
          rw [hj]
          rw [ho] at h0
          refine old _ h0 fun q hq hh => ?_
          obtain ⟨_, x, hx2, rfl, e3, h4⟩ := hnew q hq hh
          exact ⟨u, rfl, by have := look_up_mem hr.up hx2 hl e3; show x.v ≤ u; omega⟩
  · rw [if_neg hk]
    refine old _ h0 fun q hq hh => ?_
    exact absurd (hnew q hq hh).1 hk
theorem find_giveTo (ps : List Peer) (ns : List ByteArray) (L : List Lab) (all : List Smp) (nm : ByteArray) : findP (giveTo ps ns L all) nm = (findP ps nm).map fun p : Peer => if isIn ns p.nm then giveF L all p else p := by
  rw [giveTo_map]
  exact find_mapAt (f := giveF L all) (fun _ => rfl) ps ns nm
theorem upP_giveTo (ps : List Peer) (ns : List ByteArray) (L : List Lab) (all : List Smp) (nm : ByteArray) : upP' (giveTo ps ns L all) nm = upP' ps nm := by
  unfold upP'
  rw [find_giveTo]
  cases findP ps nm with
  | none => rfl
  | some p =>
    simp only [Option.map_some]
    split <;> rfl
theorem liveK_giveTo (nodes : List Nod) (copies : Nat) (ps : List Peer) (ns : List ByteArray) (L : List Lab) (all : List Smp) (key : ByteArray) : liveK nodes copies (giveTo ps ns L all) key = liveK nodes copies ps key := by
  unfold liveK
  congr 1
  funext nm
  exact upP_giveTo ps ns L all nm
theorem getH_bad {h : Hse} {L : List Lab} (hc : chkL L ≠ 0) : getH h L = (chkL L, []) := by unfold getH; rw [if_pos hc]
theorem getH_none {h : Hse} {L : List Lab} (hc : chkL L = 0) (hg : getK h (txL L) = none) : getH h L = (13, []) := by unfold getH; rw [if_neg (by simpa using hc), hg]
theorem getH_some {h : Hse} {L : List Lab} {l : List Smp} (hc : chkL L = 0) (hg : getK h (txL L) = some l) : getH h L = (0, l) := by unfold getH; rw [if_neg (by simpa using hc), hg]
theorem mendH_bad {h : Hse} {L : List Lab} (hc : chkL L ≠ 0) : mendH h L = (h, chkL L) := by unfold mendH; rw [if_pos hc]
theorem mendH_none {h : Hse} {L : List Lab} (hc : chkL L = 0) (hg : getK h (txL L) = none) : mendH h L = (h, 13) := by unfold mendH; rw [if_neg (by simpa using hc), hg]
theorem mendH_some {h : Hse} {L : List Lab} {l : List Smp} (hc : chkL L = 0) (hg : getK h (txL L) = some l) : mendH h L = ({ h with ps := giveTo h.ps (liveK h.nodes h.copies h.ps (txL L)) L l }, 0) := by unfold mendH; rw [if_neg (by simpa using hc), hg]
/-- a key that is read: what each that is up and owns it has then is all that is read -/
theorem mend_get {puts : List Pt} {h : Hse} (k : HseI puts h) (hm : puts.length ≤ 22) (hrd : 1 ≤ h.read) (L : List Lab) : (mendH h L).2 = (getH h L).1 ∧ getH (mendH h L).1 L = getH h L := by
  by_cases hchk : chkL L = 0
  · cases hg : getK h (txL L) with
    | none =>
      rw [mendH_none hchk hg]
      exact ⟨by rw [getH_none hchk hg], rfl⟩
    | some all =>
      have hr := (getK_row k hm hg).1
      rw [labOf_tx hchk] at hr
      rw [mendH_some hchk hg]
      refine ⟨by rw [getH_some hchk hg], ?_⟩
      rw [getH_some hchk hg]
      have hg2 := hg
      rw [getK_eq] at hg2
      by_cases hlen : (liveK h.nodes h.copies h.ps (txL L)).length < h.read
      · rw [if_pos hlen] at hg2; cases hg2
      · rw [if_neg hlen] at hg2
        injection hg2 with hg2
        refine getH_some hchk ?_
        rw [getK_eq]
        have hlv : liveK h.nodes h.copies (giveTo h.ps (liveK h.nodes h.copies h.ps (txL L)) L all) (txL L) = liveK h.nodes h.copies h.ps (txL L) := liveK_giveTo _ _ _ _ _ _ _
        have e9 : ∀ (ps : List Peer), ps = giveTo h.ps (liveK h.nodes h.copies h.ps (txL L)) L all → (if (liveK h.nodes h.copies ps (txL L)).length < h.read then none else some (mergeAll (hasN ps (txL L)) (liveK h.nodes h.copies ps (txL L)) [])) = some (mergeAll (hasN ps (txL L)) (liveK h.nodes h.copies h.ps (txL L)) []) := fun ps e => by
          rw [show liveK h.nodes h.copies ps (txL L) = liveK h.nodes h.copies h.ps (txL L) from by rw [e]; exact hlv, if_neg hlen]
        refine (e9 _ rfl).trans ?_
        congr 1
        have k2 := give_house k (ns := liveK h.nodes h.copies h.ps (txL L)) hr
        have hup2 : ∀ nm, Up (hasN (giveTo h.ps (liveK h.nodes h.copies h.ps (txL L)) L all) (txL L) nm) := fun nm => hasN_up k2 hm (txL L) nm
        have hN : ∀ nm ∈ liveK h.nodes h.copies h.ps (txL L), ∀ t, look (hasN (giveTo h.ps (liveK h.nodes h.copies h.ps (txL L)) L all) (txL L) nm) t = look all t := fun nm hnm t => by
          obtain ⟨p, hf, hp⟩ := liveK_find k.hse (txL L) nm hnm
          have hpn := (findP_mem hf).2
          have e4 : hasN (giveTo h.ps (liveK h.nodes h.copies h.ps (txL L)) L all) (txL L) nm = hasK (giveF L all p) (txL L) := by
            unfold hasN
            rw [find_giveTo, hf]
            simp only [Option.map_some]
            rw [if_pos (isIn_iff.2 (by rw [hpn]; exact hnm))]
          rw [e4, hasK_look, give_look k hp hr, if_pos rfl, ← hasK_look]
          have e5 : hasN h.ps (txL L) nm = hasK p (txL L) := by unfold hasN; rw [hf]
          cases hl : look (hasK p (txL L)) t with
          | none => cases look all t <;> rfl
          | some v =>
            obtain ⟨u, h5, h6⟩ := mergeAll_ge (f := hasN h.ps (txL L)) (t := t) (v := v) (liveK h.nodes h.copies h.ps (txL L)) [] (fun nm _ => hasN_up k hm (txL L) nm) List.Pairwise.nil (.inr ⟨nm, hnm, by rw [e5]; exact hl⟩)
            rw [hg2] at h5
            rw [h5]
            show some (max v u) = some u
            rw [Int.max_eq_right h6]
        refine look_ext _ _ (mergeAll_up _ _ (fun nm _ => hup2 nm) List.Pairwise.nil) hr.up fun t => ?_
        cases hl : look all t with
        | none =>
          cases hm2 : look (mergeAll (hasN (giveTo h.ps (liveK h.nodes h.copies h.ps (txL L)) L all) (txL L)) (liveK h.nodes h.copies h.ps (txL L)) []) t with
          | none => rfl
          | some v =>
            rcases mergeAll_some _ _ (fun nm _ => hup2 nm) List.Pairwise.nil hm2 with e | ⟨nm, hnm, e⟩
            · cases e
            · rw [hN nm hnm, hl] at e; cases e
        | some v =>
          obtain ⟨nm, hnm⟩ : ∃ nm, nm ∈ liveK h.nodes h.copies h.ps (txL L) := by
            cases hl2 : liveK h.nodes h.copies h.ps (txL L) with
            | nil => rw [hl2] at hlen; simp at hlen; omega
            | cons nm _ => exact ⟨nm, List.mem_cons_self⟩
          obtain ⟨u, h5, h6⟩ := mergeAll_ge (t := t) (v := v) (liveK h.nodes h.copies h.ps (txL L)) [] (fun nm _ => hup2 nm) List.Pairwise.nil (.inr ⟨nm, hnm, by rw [hN nm hnm]; exact hl⟩)
          rw [h5]
          rcases mergeAll_some _ _ (fun nm _ => hup2 nm) List.Pairwise.nil h5 with e | ⟨nm2, hnm2, e⟩
          · cases e
          · rw [hN nm2 hnm2, hl] at e; exact e.symm
  · rw [mendH_bad hchk]
    exact ⟨by rw [getH_bad hchk], rfl⟩
/-- keys of what is gathered -/
theorem joinS_keys (st : StD) (y : Ser) (k : ByteArray) : k ∈ (joinS st y).map (·.1) ↔ k ∈ st.map (·.1) ∨ txL y.1 = k := by
  have hput : ∀ z : Ser, k ∈ (putSt st (txL y.1) z).map (·.1) ↔ k ∈ st.map (·.1) ∨ txL y.1 = k := fun z => by
    rcases put_keys st (txL y.1) z with ⟨h1, e⟩ | ⟨_, e⟩
    · rw [e]
      exact ⟨.inl, fun h => h.elim id fun e2 => by rw [← e2]; exact h1⟩
    · rw [e, List.mem_append, List.mem_singleton]
      exact ⟨fun h => h.elim .inl fun e2 => .inr e2.symm, fun h => h.elim .inl fun e2 => .inr e2.symm⟩
  unfold joinS
  cases findSt st (txL y.1) <;> exact hput _
theorem joins_keys : ∀ (l : List Ser) (st : StD) (k : ByteArray), k ∈ (l.foldl joinS st).map (·.1) ↔ k ∈ st.map (·.1) ∨ ∃ y ∈ l, txL y.1 = k
  | [], st, k => ⟨.inl, fun h => h.elim id fun ⟨_, h, _⟩ => absurd h (List.not_mem_nil)⟩
  | y :: l, st, k => by
    rw [List.foldl_cons, joins_keys l, joinS_keys]
    constructor
    · rintro ((h | h) | ⟨z, hz, e⟩)
      · exact .inl h
      · exact .inr ⟨y, List.mem_cons_self, h⟩
      · exact .inr ⟨z, List.mem_cons_of_mem _ hz, e⟩
    · rintro (h | ⟨z, hz, e⟩)
      · exact .inl (.inl h)
      · rcases List.mem_cons.1 hz with e2 | e2
        · rw [e2] at e; exact .inl (.inr e)
        · exact .inr ⟨z, e2, e⟩
theorem gather_keys (ps : List Peer) (names : List ByteArray) (k : ByteArray) : k ∈ (gatherH ps names).map (·.1) ↔ ∃ nm ∈ names, ∃ y ∈ serOf ps nm, txL y.1 = k := by
  refine snocRec (motive := fun names => k ∈ (gatherH ps names).map (·.1) ↔ ∃ nm ∈ names, ∃ y ∈ serOf ps nm, txL y.1 = k) ?_ (fun names nm ih => ?_) names
  · exact ⟨fun h => absurd h (List.not_mem_nil), fun ⟨_, h, _⟩ => absurd h (List.not_mem_nil)⟩
  · rw [gather_snoc, joins_keys, ih]
    constructor
    · rintro (⟨n, hn, h⟩ | h)
      · exact ⟨n, List.mem_append_left _ hn, h⟩
      · exact ⟨nm, by simp, h⟩
    · rintro ⟨n, hn, h⟩
      rcases List.mem_append.1 hn with e | e
      · exact .inl ⟨n, e, h⟩
      · rw [List.mem_singleton] at e
        rw [e] at h
        exact .inr h
theorem serOf_keys {puts : List Pt} {h : Hse} (k : HseI puts h) (hm : puts.length ≤ 22) (nm key : ByteArray) : (∃ y ∈ serOf h.ps nm, txL y.1 = key) ↔ ∃ p, findP h.ps nm = some p ∧ p.up = true ∧ hasKey p key := by
  unfold serOf
  cases hf : findP h.ps nm with
  | none => exact ⟨fun ⟨_, h, _⟩ => absurd h (List.not_mem_nil), fun ⟨_, h, _⟩ => by cases h⟩
  | some p =>
    have hpk := k.peer hm (findP_mem hf).1
    simp only []
    by_cases hu : p.up = true
    · rw [if_pos hu]
      constructor
      · rintro ⟨y, hy, e⟩
        obtain ⟨j, hj, e2⟩ := List.getElem_of_mem hy
        exact ⟨p, rfl, hu, (hasKey_iff hpk.ok key).2 ⟨j, hj, by rw [at_eq hj, e2, e]⟩⟩
      · rintro ⟨q, e, _, hk⟩
        injection e with e
        subst e
        obtain ⟨j, hj, e2⟩ := (hasKey_iff hpk.ok key).1 hk
        exact ⟨_, at_mem hj, e2⟩
    · rw [if_neg hu]
      exact ⟨fun ⟨_, h, _⟩ => absurd h (List.not_mem_nil), fun ⟨q, e, h2, _⟩ => by injection e with e; rw [← e] at h2; exact absurd h2 hu⟩
theorem hasKey_look {p : Peer} (h : PeerOk p) (key : ByteArray) : hasKey p key ↔ ∃ t, lookSt p.st key t ≠ none := by
  rw [← key_iff h.inv key]
  unfold hasKey
  exact ⟨fun hk => Classical.byContradiction fun e => hk (find_none_iff.2 e), fun hk e => find_none_iff.1 e hk⟩
theorem allH_len (h : Hse) : (allH h).length = (gatherH h.ps (h.nodes.map fun x : Nod => x.nm)).length := by unfold allH; rw [allN_len]
theorem mend_keys {puts : List Pt} {h : Hse} (k : HseI puts h) (hm : puts.length ≤ 22) (L : List Lab) : (allH h).length ≤ (allH (mendH h L).1).length := by
  have k2 := mendH_sub k hm L
  rw [allH_len, allH_len]
  have h1 := (gather_ok k hm (h.nodes.map fun x : Nod => x.nm)).keys
  have h2 : ((gatherH h.ps (h.nodes.map fun x : Nod => x.nm)).map (·.1)).length ≤ ((gatherH (mendH h L).1.ps ((mendH h L).1.nodes.map fun x : Nod => x.nm)).map (·.1)).length := nodup_le h1 fun key hkey => by
    rw [gather_keys] at hkey ⊢
    obtain ⟨nm, hnm, hy⟩ := hkey
    obtain ⟨p, hf, hu, hk⟩ := (serOf_keys k hm nm key).1 hy
    have hn : (mendH h L).1.nodes = h.nodes := by
      unfold mendH
      split
      · rfl
      · cases getK h (txL L) <;> rfl
    rw [hn]
    refine ⟨nm, hnm, (serOf_keys k2 hm nm key).2 ?_⟩
    unfold mendH
    by_cases hchk : chkL L = 0
    · rw [if_neg (by simpa using hchk)]
      cases hg : getK h (txL L) with
      | none => exact ⟨p, hf, hu, hk⟩
      | some all =>
        have hr := (getK_row k hm hg).1
        rw [labOf_tx hchk] at hr
        have hp := (findP_mem hf).1
        refine ⟨_, by show findP (giveTo h.ps _ L all) nm = _; rw [find_giveTo, hf]; rfl, ?_, ?_⟩
        · dsimp only
          split
          · exact hu
          · exact hu
        · dsimp only
          split
          · have hsub := give_sub (k.sub p hp) k.ok (L := L) all hr.up hr.mem p.qs (k.sub p hp) (fun q hq hn => absurd hq hn) fun q hq => hq
            have hok : PeerOk (giveF L all p) := ⟨Nat.le_trans hsub.len hm, fun q hq => (k.ok q (hsub.mem hq)).2⟩
            obtain ⟨t, ht⟩ := (hasKey_look (k.peer hm hp).ok key).1 hk
            refine (hasKey_look hok key).2 ⟨t, ?_⟩
            rw [give_look k hp hr]
            split
            · cases hl : lookSt p.st key t with
              | none => exact absurd hl ht
              | some v => cases look all t <;> simp [join]
            · exact ht
          · exact hk
    · rw [if_pos hchk]
      exact ⟨p, hf, hu, hk⟩
  rw [List.length_map, List.length_map] at h2
  exact h2
end Go.Proofs.YtihjgbhnlejhfaaGreatDoor
namespace Go.Proofs.YtihjgbhnlejhfaaGreatDoor
open Go.Sort

def markAll (h : Hse) (names : List ByteArray) (b : Bool) : Hse := names.foldl (fun h nm => h.mark nm b) h
theorem markAll_snoc (h : Hse) (names : List ByteArray) (nm : ByteArray) (b : Bool) : markAll h (names ++ [nm]) b = (markAll h names b).mark nm b := by unfold markAll; rw [List.foldl_append]; rfl
def upF (b : Bool) (p : Peer) : Peer := { p with up := b }
theorem markAll_eq (h : Hse) (b : Bool) (names : List ByteArray) : markAll h names b = { h with ps := mapAt h.ps names (upF b) } := by
  refine snocRec (motive := fun names => markAll h names b = { h with ps := mapAt h.ps names (upF b) }) ?_ (fun names nm ih => ?_) names
  · rw [mapAt_nil]; rfl
  · rw [markAll_snoc, ih]
    show ({ h with ps := setUp (mapAt h.ps names (upF b)) nm b } : Hse) = _
    congr 1
    unfold setUp mapAt
    rw [List.map_map]
    refine List.map_congr_left fun p _ => ?_
    show (if (if isIn names p.nm = true then upF b p else p).nm = nm then { (if isIn names p.nm = true then upF b p else p) with up := b } else (if isIn names p.nm = true then upF b p else p)) = if isIn (names ++ [nm]) p.nm = true then upF b p else p
    rw [isIn_app, isIn_one]
    by_cases h1 : isIn names p.nm = true
    · rw [h1]
      simp only [if_true, Bool.true_or]
      split <;> rfl
    · have h1 : isIn names p.nm = false := by simpa using h1
      rw [h1]
      simp only [Bool.false_eq_true, if_false, Bool.false_or]
      by_cases h2 : p.nm = nm
      · rw [if_pos h2, if_pos (decide_eq_true h2.symm)]; rfl
      · rw [if_neg h2, if_neg (by simpa using fun e : nm = p.nm => h2 e.symm)]
theorem markAll_sub {puts : List Pt} {h : Hse} (k : HseI puts h) (b : Bool) : ∀ (names : List ByteArray), HseI puts (markAll h names b) := by
  intro names
  refine snocRec (motive := fun names => HseI puts (markAll h names b)) k (fun names nm ih => ?_) names
  rw [markAll_snoc]
  exact setUp_sub ih nm b
/-- the names of a house's nodes -/
def Hse.names (h : Hse) : List ByteArray := h.nodes.map fun x : Nod => x.nm
theorem setN_ok {puts : List Pt} {h : Hse} (k : HseI puts h) (ns : List ByteArray) (b : Bool) {nm : ByteArray} (hn : nm ∈ h.names) : setN (markAll h ns b) nm = 0 := by
  obtain ⟨x, hx, e⟩ := List.mem_map.1 hn
  obtain ⟨p, hp, e2⟩ := k.each x hx
  unfold setN
  rw [if_pos]
  rw [markAll_eq]
  show (findP (mapAt h.ps ns (upF b)) nm).isSome = true
  rw [find_mapAt (f := upF b) (fun _ => rfl)]
  cases hf : findP h.ps nm with
  | none => exact absurd (e2.trans e) (find_none_all hf p hp)
  | some q => rfl
/-- all of a house's nodes marked -/
theorem markAll_all {puts : List Pt} {h : Hse} (k : HseI puts h) (b : Bool) : markAll h h.names b = { h with ps := h.ps.map (upF b) } := by
  rw [markAll_eq]
  congr 1
  unfold mapAt
  refine List.map_congr_left fun p hp => ?_
  obtain ⟨x, hx, e⟩ := k.only p hp
  rw [if_pos]
  exact isIn_iff.2 (List.mem_map.2 ⟨x, hx, e⟩)
theorem up_down {puts : List Pt} {h : Hse} (k : HseI puts h) : markAll (markAll (markAll h h.names true) h.names false) h.names true = markAll h h.names true := by
  have e1 := markAll_all k true
  have k1 := markAll_sub k true h.names
  have n1 : (markAll h h.names true).names = h.names := by rw [e1]; rfl
  have e2 := markAll_all k1 false
  rw [n1] at e2
  have k2 := markAll_sub k1 false h.names
  have n2 : (markAll (markAll h h.names true) h.names false).names = h.names := by rw [e2, e1]; rfl
  have e3 := markAll_all k2 true
  rw [n2] at e3
  rw [e3, e2, e1]
  congr 1
  show ((h.ps.map (upF true)).map (upF false)).map (upF true) = h.ps.map (upF true)
  rw [List.map_map, List.map_map]
  refine List.map_congr_left fun p _ => rfl
/-- a house all of whose nodes are down -/
def AllDown (h : Hse) : Prop := ∀ p ∈ h.ps, p.up = false
theorem down_all {puts : List Pt} {h : Hse} (k : HseI puts h) : AllDown (markAll h h.names false) := by
  rw [markAll_all k false]
  intro p hp
  obtain ⟨q, _, rfl⟩ := List.mem_map.1 hp
  rfl
theorem down_live {h : Hse} (hd : AllDown h) (key : ByteArray) : liveK h.nodes h.copies h.ps key = [] := by
  unfold liveK
  refine List.filter_eq_nil_iff.2 fun nm _ => ?_
  unfold upP'
  cases hf : findP h.ps nm with
  | none => simp
  | some p => simp [hd p (findP_mem hf).1]
theorem down_put {h : Hse} (hd : AllDown h) (hw : 1 ≤ h.write) (L : List Lab) (x : Smp) : (putH h L x).1 = h ∧ (putH h L x).2.1 = 0 ∧ (putH h L x).2.2 ≠ 0 := by
  unfold putH
  by_cases he : (encN L x).2 ≠ 0
  · rw [if_pos he]; exact ⟨rfl, rfl, he⟩
  · rw [if_neg he]
    simp only [down_live hd, addAt_nil, List.length_nil]
    rw [if_pos (by omega)]
    exact ⟨trivial, trivial, by decide⟩
theorem down_get {h : Hse} (hd : AllDown h) (hr : 1 ≤ h.read) (L : List Lab) : (getH h L).1 ≠ 0 ∧ (getH h L).2 = [] := by
  by_cases hc : chkL L = 0
  · have hg : getK h (txL L) = none := by rw [getK_eq, down_live hd, if_pos (show ([] : List ByteArray).length < h.read from hr)]
    rw [getH_none hc hg]
    exact ⟨by decide, rfl⟩
  · rw [getH_bad hc]
    exact ⟨hc, rfl⟩
theorem down_allH {h : Hse} (hd : AllDown h) : allH h = [] := by
  have h1 : ∀ nm, serOf h.ps nm = [] := fun nm => by
    unfold serOf
    cases hf : findP h.ps nm with
    | none => rfl
    | some p => simp [hd p (findP_mem hf).1]
  have h2 : gatherH h.ps (h.nodes.map fun x : Nod => x.nm) = [] := by
    refine snocRec (motive := fun names => gatherH h.ps names = []) rfl (fun names nm ih => ?_) _
    rw [gather_snoc, ih, h1]; rfl
  unfold allH
  rw [h2]
  exact List.eq_nil_of_length_eq_zero (by rw [allN_len]; rfl)
theorem names_fit {puts : List Pt} {h : Hse} (k : HseI puts h) {nm : ByteArray} (hn : nm ∈ h.names) : nm.size ≤ maxLen := by
  obtain ⟨x, hx, e⟩ := List.mem_map.1 hn
  have h1 := (k.ring.2.1 x hx).2.1
  rw [e] at h1
  unfold maxLen
  omega
theorem SerRow.outH {w w' : World} {base b2 : Nat} {es : List (Value × Value)} {l : List Ser} (h : SerRow w base es l) (hO : OutH b2 w w') : SerRow w' base es l :=
  h.keep fun _ _ k => by
    obtain ⟨A, n, c, A', n', c', h1, h2, h3, h4, h5⟩ := k
    exact ⟨A, n, c, A', n', c', h1, h2, h3, hO.own h4 (by unfold HsKind StKind; decide), hO.own h5 (by unfold HsKind StKind; decide)⟩
end Go.Proofs.YtihjgbhnlejhfaaGreatDoor
namespace Go.Proofs.YtihjgbhnlejhfaaGreatDoor
open Go.RowKit Go.ChangeMaps

set_option maxRecDepth 1000000 in
set_option maxHeartbeats 16000000 in
theorem houseDown_any (W : World) (A0 : Option Addr) (c0 : Nat) (L : List NodE) (ok0 : ∀ e ∈ L, NodOk W e) (_lc0 : L.length ≤ c0) (_cm0 : c0 ≤ maxLen) (_nil0 : A0 = none → c0 = 0) (has0 : Has W W.heap.size A0 (nodCs L)) (_reach0 : L.length * 40 ≤ 140737488351232)
    (C : Int) (_bC : -9223372036854775808 ≤ C ∧ C ≤ 9223372036854775807) (Wr : Int) (_bW : -9223372036854775808 ≤ Wr ∧ Wr ≤ 9223372036854775807) (R : Int) (_bR : -9223372036854775808 ≤ R ∧ R ≤ 9223372036854775807)
    (A4 : Option Addr) (c4 : Nat) (l : List StpE) (ok4 : ∀ e ∈ l, e.good W) (lc4 : l.length ≤ c4) (cm4 : c4 ≤ maxLen) (_nil4 : A4 = none → c4 = 0) (has4 : Has W W.heap.size A4 (stpCs l)) (_reach4 : l.length * 112 ≤ 140737488351232)
    (p : PutE) (gp : p.good W) (tS : SgAt W) :
    Calls Tryz.prog 8 #[.slice A0 L.length c0, .int .i64 C, .int .i64 Wr, .int .i64 R, .slice A4 l.length c4, .agg #[.slice p.t.A p.t.l.length p.t.c, .int .i64 p.x.t, .int .i64 p.x.v]] W (R1 (.bool true) (Below W.heap.size W)) := by
  obtain ⟨n0, hn0⟩ : ∃ n0, L.length = n0 := ⟨_, rfl⟩
  obtain ⟨n, hn⟩ : ∃ n, l.length = n := ⟨_, rfl⟩
  obtain ⟨pn, hpn⟩ : ∃ pn, p.t.l.length = pn := ⟨_, rfl⟩
  obtain ⟨W0, hW0⟩ : ∃ W0, W.alloc (.cells #[.slice p.t.A pn p.t.c, .int .i64 p.x.t, .int .i64 p.x.v] 28) = W0 := ⟨_, rfl⟩
  obtain ⟨q, hq⟩ : ∃ q, W.heap.size = q := ⟨_, rfl⟩
  have hb0 : Below W.heap.size W W0 := by rw [← hW0]; exact one_allocB _ _
  have kx : Blk W0 q 28 #[.slice p.t.A pn p.t.c, .int .i64 p.x.t, .int .i64 p.x.v] := by rw [← hW0]; exact Blk.newD _ _ _ _ hq
  have hHs := Lib.hid (houses_any W0)
  have hNew := Lib.hid (fun (w1 : World) (hb1 : Below W.heap.size W w1) => hnew_any A0 n0 c0 L hn0 (by omega) C Wr R w1 (has0.next hb1) (fun e he => (ok0 e he).next hb1))
  have Hok4 := Lib.hid (fun e (he : e ∈ l) => (ok4 e he).inn)
  have Hhas4 := Lib.hid has4
  have Hn := Lib.hid hn
  have Hgp := Lib.hid gp
  have Hpn := Lib.hid hpn
  have HS := Lib.hid tS
  have HW0 := Lib.hid hW0
  have Hq := Lib.hid hq
  have Hkx := Lib.hid kx
  have Hb0 := Lib.hid hb0
  have hnl : n ≤ maxLen := by omega
  rw [hn0, hn, hpn]
  clear ok0 has0 ok4 has4 hn0 hn gp hpn tS hb0 lc4 cm4 hW0 hq kx
  go_enter Tryz.func8, Tryz.ntmps8
  go_upto_region 1 with fail
  rw [HW0.out, Hq.out]
  go_wp2_with fail
  refine hHs.out.mono ?_
  rintro e w1 ⟨rfl, hb1⟩
  have hb01 := bnext Hb0.out hb1
  have hN1 := Lib.hid (hNew.out w1 hb01)
  have kx1 := Lib.hid (Hkx.out.next hb1)
  have hb01 := Lib.hid hb01
  clear hb1 hNew hHs
  go_wp2_with fail
  refine hN1.out.mono ?_
  rintro e w2 ⟨v, rfl, hc, hb2⟩
  have hb02 := Lib.hid (bnext hb01.out hb2)
  rcases hc with ⟨he, rfl⟩ | ⟨hE, hb, rfl, hM⟩
  · have f1 : (newE (L.map NodE.x) C Wr R != 0) = true := by rw [bne_iff_ne]; exact he
    obtain ⟨er, her⟩ : ∃ er, newE (L.map NodE.x) C Wr R = er := ⟨_, rfl⟩
    rw [her] at f1 ⊢
    clear he her hb2
    go_wp2_with fail
    go_ret
    exact R1.mk rfl hb02.out
  · by_cases h20 : (18 : Int) < (n : Int)
    · clear hE hM hb2
      go_wp2_with fail
      go_ret
      exact R1.mk rfl hb02.out
    · obtain ⟨hI, hr20, hw20, hwr1, hrd1, hcC, hcW, _⟩ := newH_ok hE
      have hsb : 0 < w1.heap.size := Nat.lt_of_lt_of_le HS.out.1 hb01.out.size
      obtain ⟨h0, hh0⟩ : ∃ h0, newH (L.map NodE.x) C Wr R = h0 := ⟨_, rfl⟩
      rw [hh0] at hM hI hr20 hw20 hwr1 hrd1 hcC hcW
      have Hrun := Lib.hid (fun (j : Nat) (_hj : j ≤ n) => run_sub hI ((l.map StpE.s).take j) (by rw [List.length_take]; omega) (fun a ha => by
        obtain ⟨e, he, rfl⟩ := List.mem_map.1 (List.mem_of_mem_take ha)
        exact (Hok4.out e he).x))
      have Hsame := Lib.hid (fun (j : Nat) => runH_same ((l.map StpE.s).take j) h0)
      have Hplen := Lib.hid (fun (j : Nat) (_hj : j ≤ n) => show (putsOf ((l.map StpE.s).take j)).length ≤ j from Nat.le_trans (putsOf_len _) (by rw [List.length_take]; exact Nat.min_le_left _ _))
      have hM := Lib.hid hM
      have HcC := Lib.hid hcC
      have HcW := Lib.hid hcW
      have hn20 : n ≤ 18 := by omega
      have ho2 := Lib.hid (OutH.of hb2 (Nat.le_refl _))
      clear hE hI hb2 hh0 hcC hcW
      go_wp2_with fail
      go_loopw [66] (fun i wr => ∃ j : Nat, j ≤ n ∧ i = .int .i64 (j : Nat) ∧ Hid (HsM wr w1.heap.size hb (runH h0 ((l.map StpE.s).take j))) ∧ Hid (OutH w1.heap.size w1 wr)) (fun i _ => n + 5 - (intOf i).toNat)
      case atStart => exact ⟨0, by omega, rfl, Lib.hid (by rw [List.take_zero]; exact hM.out), ho2⟩
      case round =>
        obtain ⟨j, hj, rfl, hMj, hoj⟩ := hrel
        have hbj := Lib.hid (hb01.out.trans (hoj.out.below.mono hb01.out.size))
        have hbs : w1.heap.size ≤ wr.heap.size := hoj.out.size
        by_cases hlt : (j : Int) < (n : Int)
        · have hjl : j < l.length := by rw [Hn.out]; omega
          obtain ⟨ad, rfl, g0, g1, g2, g3, g4, g5, g6, g7⟩ := stp_cells (Hhas4.out.next hbj.out) hjl
          have hjs : j < (l.map StpE.s).length := by rw [List.length_map]; exact hjl
          have hat : at_ (l.map StpE.s) j = (at_ l j).s := by rw [at_eq hjs, List.getElem_map, ← at_eq hjl]
          have hnx : runH h0 ((l.map StpE.s).take (j + 1)) = (doneH (runH h0 ((l.map StpE.s).take j)) (at_ l j).s).1 := by rw [take_snoc hjs, runH_snoc, hat]
          have hein := (Hok4.out _ (at_mem hjl)).next hbj.out
          obtain ⟨e, he⟩ : ∃ e, at_ l j = e := ⟨_, rfl⟩
          rw [he] at g0 g1 g2 g3 g4 g5 g6 g7 hnx hein
          obtain ⟨tn, htn⟩ : ∃ tn, e.t.l.length = tn := ⟨_, rfl⟩
          obtain ⟨np, hnp⟩ : ∃ np, e.node.t.l.length = np := ⟨_, rfl⟩
          rw [htn] at g2
          rw [hnp] at g7
          have q0 : (0 : Int) ≤ (j : Int) := by omega
          obtain ⟨W8, hW8⟩ : ∃ W8, wr.alloc (.cells #[.int .i64 e.kind, .int .i64 e.keep, .slice e.t.A tn e.t.c, .int .i64 e.x.t, .int .i64 e.x.v, .string e.nm, .string e.node.nm, .slice e.node.t.A np e.node.t.c] 38) = W8 := ⟨_, rfl⟩
          obtain ⟨q8, hq8⟩ : ∃ q8, wr.heap.size = q8 := ⟨_, rfl⟩
          have hb8 : Below wr.heap.size wr W8 := by rw [← hW8]; exact one_allocB _ _
          have k8 : Blk W8 q8 38 #[.int .i64 e.kind, .int .i64 e.keep, .slice e.t.A tn e.t.c, .int .i64 e.x.t, .int .i64 e.x.v, .string e.nm, .string e.node.nm, .slice e.node.t.A np e.node.t.c] := by rw [← hW8]; exact Blk.newD _ _ _ _ hq8
          have d0 : W8.cell? ⟨q8, 0, none⟩ = some (.int .i64 e.kind) := k8.cell 0
          have d1 : W8.cell? ⟨q8, 1, none⟩ = some (.int .i64 e.keep) := k8.cell 1
          have d2 : W8.cell? ⟨q8, 2, none⟩ = some (.slice e.t.A tn e.t.c) := k8.cell 2
          have d3 : W8.cell? ⟨q8, 3, none⟩ = some (.int .i64 e.x.t) := k8.cell 3
          have d4 : W8.cell? ⟨q8, 4, none⟩ = some (.int .i64 e.x.v) := k8.cell 4
          have d5 : W8.cell? ⟨q8, 5, none⟩ = some (.string e.nm) := k8.cell 5
          have d6 : W8.cell? ⟨q8, 6, none⟩ = some (.string e.node.nm) := k8.cell 6
          have d7 : W8.cell? ⟨q8, 7, none⟩ = some (.slice e.node.t.A np e.node.t.c) := k8.cell 7
          have hpl := Hplen.out j hj
          have hD := Lib.hid (done_any w1.heap.size hb (putsOf ((l.map StpE.s).take j)) (runH h0 ((l.map StpE.s).take j)) (by omega) e tn np htn hnp W8 ⟨hMj.out.next hb8, Hrun.out j hj, by rw [(Hsame.out j).2.2]; exact hr20, by rw [(Hsame.out j).2.1]; exact hw20⟩ (Nat.le_trans hbs hb8.size)
            ((hein.next ((Below.mono hb8 hbj.out.size))).more hb01.out.size) (HS.out.next (bnext hbj.out hb8)) hsb)
          have hoW := Lib.hid (hoj.out.trans (OutH.of hb8 hbs))
          have Hnx := Lib.hid hnx
          clear hjl hjs hat hnx hein he htn hnp hb8 k8 hpl
          go_upto_region 9 with fail
          (try rw [hW8]); (try rw [hq8])
          clear hW8 hq8 g0 g1 g2 g3 g4 g5 g6 g7
          go_wp2_with fail
          refine hD.out.mono ?_
          rintro e9 w9 ⟨rfl, hM9, hO9⟩
          have hM9 := Lib.hid (by rw [← Hnx.out] at hM9; exact hM9)
          have hO9 := Lib.hid (hoW.out.trans hO9)
          clear d0 d1 d2 d3 d4 d5 d6 d7
          go_wp2_with fail
          go_roundw
          case rel => exact ⟨j + 1, by omega, by go_num, hM9, hO9⟩
          case measure => simp [intOf]; omega
        · obtain rfl : n = j := by omega
          have hz := hMj.out
          have hin := Hrun.out n (by omega)
          have hsm := Hsame.out n
          have hpl := Hplen.out n (by omega)
          rw [show (l.map StpE.s).take n = l.map StpE.s by rw [List.take_of_length_le]; rw [List.length_map, Hn.out]; exact Nat.le_refl _] at hz hin hsm hpl
          obtain ⟨hr, hhr⟩ : ∃ hr, runH h0 (l.map StpE.s) = hr := ⟨_, rfl⟩
          rw [hhr] at hz hin hsm
          have hm22 : (putsOf (l.map StpE.s)).length ≤ 22 := by omega
          have hrr1 : 1 ≤ hr.read := by rw [hsm.2.2]; exact hrd1
          have hww1 : 1 ≤ hr.write := by rw [hsm.2.1]; exact hwr1
          have hww20 : hr.write ≤ 20 := by rw [hsm.2.1]; exact hw20
          have hpl18 : (putsOf (l.map StpE.s)).length ≤ 18 := by omega
          obtain ⟨puts, hputs⟩ : ∃ puts, putsOf (l.map StpE.s) = puts := ⟨_, rfl⟩
          rw [hputs] at hin hpl18 hm22
          obtain ⟨ns, hns⟩ : ∃ ns, hr.names = ns := ⟨_, rfl⟩
          have Hin := Lib.hid hin
          have Hnsf := Lib.hid (fun nm (hn : nm ∈ ns) => names_fit hin (by rw [hns]; exact hn))
          have Hns20 := Lib.hid (show ns.length ≤ 20 from by rw [← hns]; unfold Hse.names; rw [List.length_map]; exact hin.ring.1)
          have Hset := Lib.hid (fun (b : Bool) (h9 : Hse) (k9 : HseI puts h9) (n9 : h9.names = ns) (j : Nat) (hj : j < ns.length) => setN_ok k9 (ns.take j) b (nm := at_ ns j) (by rw [n9]; exact at_mem hj))
          obtain ⟨hU, hhU⟩ : ∃ hU, markAll hr ns true = hU := ⟨_, rfl⟩
          obtain ⟨hD, hhD⟩ : ∃ hD, markAll hU ns false = hD := ⟨_, rfl⟩
          have hkU : HseI puts hU := by rw [← hhU]; exact markAll_sub hin true ns
          have hkD : HseI puts hD := by rw [← hhD]; exact markAll_sub hkU false ns
          have hnU : hU.names = ns := by rw [← hhU, ← hns, markAll_all hin true]; rfl
          have hnD : hD.names = ns := by
            have h1 := markAll_all hkU false
            rw [hnU, hhD] at h1
            rw [h1]
            exact hnU
          have hback : markAll hD ns true = hU := by
            have h1 := up_down hin
            rw [hns, hhU, hhD] at h1
            exact h1
          have hdn : AllDown hD := by
            have h1 := down_all hkU
            rw [hnU, hhD] at h1
            exact h1
          have hsU : hU.copies = hr.copies ∧ hU.write = hr.write ∧ hU.read = hr.read := by rw [← hhU, markAll_eq]; exact ⟨rfl, rfl, rfl⟩
          have hsD : hD.copies = hr.copies ∧ hD.write = hr.write ∧ hD.read = hr.read := by rw [← hhD, markAll_eq]; exact hsU
          have hAl : (allH hU).length ≤ 22 := by
            have h1 := ((gather_ok hkU hm22 (hU.nodes.map fun x : Nod => x.nm)).few hkU.ok).1
            rw [← allH_len] at h1
            omega
          obtain ⟨q1, q2, q3⟩ := down_put hdn (by rw [hsD.2.1]; exact hww1) p.t.l p.x
          obtain ⟨q4, q5⟩ := down_get hdn (by rw [hsD.2.2]; exact hrr1) p.t.l
          have q6 := down_allH hdn
          have HkU := Lib.hid hkU
          have HkD := Lib.hid hkD
          have HhU := Lib.hid hhU
          have HhD := Lib.hid hhD
          have HnU := Lib.hid hnU
          have HnD := Lib.hid hnD
          have Hback := Lib.hid hback
          have Hr0 := Lib.hid hns
          have hPut := Lib.hid (fun (w5 : World) (hO : OutH w1.heap.size w1 w5) (h5 : HsM w5 w1.heap.size hb hD) => hput_any w1.heap.size hb puts.length hD hkD.hse (by omega) (by rw [hsD.2.1]; exact hww20) p.t.A pn p.t.c p.t.l Hpn.out (by have := Hgp.out.1.2.1; have := Hgp.out.1.2.2.1; have := Hpn.out; omega) (fun e => by have h1 := Hgp.out.1.2.2.2.1 e; have h2 := Hgp.out.1.2.1; have := Hpn.out; omega) p.x Hgp.out.2 Hgp.out.1.1 w5 h5 hO.size ((Hgp.out.1.2.2.2.2.keep fun a ha => (hb01.out.trans (hO.below.mono hb01.out.size)).cell ha).more hb01.out.size) (HS.out.next (hb01.out.trans (hO.below.mono hb01.out.size))) hsb)
          rw [q1, q2] at hPut
          obtain ⟨fe, hfe⟩ : ∃ fe, (putH hD p.t.l p.x).2.2 = fe := ⟨_, rfl⟩
          rw [hfe] at hPut q3
          have hGt := Lib.hid (fun (w5 : World) (hO : OutH w1.heap.size w1 w5) (mb : Nat) (NA : Option Addr) (nc : Nat) (NL : List NodE) (es : Array MapEntry) (clock : Nat) (kvs : List (Value × Value)) (ls : List (Nat × Nat)) (h5 : HsAt w5 w1.heap.size hb mb NA nc NL es clock kvs ls hD) => hGet_any w1.heap.size hb mb NA nc NL es clock kvs ls puts hD hkD hm22 (by rw [hsD.2.2, hsm.2.2]; exact hr20) p.t.A pn p.t.c p.t.l Hpn.out (by have := Hgp.out.1.2.1; have := Hgp.out.1.2.2.1; have := Hpn.out; omega) Hgp.out.1.1 w5 (Hgp.out.1.2.2.2.2.next (hb01.out.trans (hO.below.mono hb01.out.size))) h5 (HS.out.next (hb01.out.trans (hO.below.mono hb01.out.size))))
          obtain ⟨⟨ge, gl⟩, hge⟩ : ∃ r, getH hD p.t.l = r := ⟨_, rfl⟩
          rw [hge] at hGt q4 q5
          simp only [] at q4 q5
          subst q5
          have hAl1 := Lib.hid (fun (h9 : Hse) (k9 : HseI puts h9) (w5 : World) (hO : OutH w1.heap.size w1 w5) (mb : Nat) (NA : Option Addr) (nc : Nat) (NL : List NodE) (es : Array MapEntry) (clock : Nat) (kvs : List (Value × Value)) (ls : List (Nat × Nat)) (h5 : HsAt w5 w1.heap.size hb mb NA nc NL es clock kvs ls h9) => hall_any w1.heap.size hb mb NA nc NL es clock kvs ls puts h9 k9 hm22 w5 h5 (HS.out.next (hb01.out.trans (hO.below.mono hb01.out.size))))
          have hNds := Lib.hid (fun (h9 : Hse) (k9 : HseI puts h9) (w5 : World) (mb : Nat) (NA : Option Addr) (nc : Nat) (NL : List NodE) (es : Array MapEntry) (clock : Nat) (kvs : List (Value × Value)) (ls : List (Nat × Nat)) (h5 : HsAt w5 w1.heap.size hb mb NA nc NL es clock kvs ls h9) => hnodes_any w1.heap.size hb mb NA nc NL es clock kvs ls h9 k9.ring w5 h5)
          have HAl := Lib.hid hAl
          have Q6 := Lib.hid q6
          have kxr := Lib.hid (hoj.out.blk kx1.out (by unfold HsKind StKind; decide))
          have Hz := Lib.hid hz
          have hns20 := Hns20.out
          clear hz hin hsm hpl hhr hputs hns hkU hkD hnU hnD hback hdn hsU hsD hAl q1 q2 q6 hfe hge hhU hhD hrr1 hww1
          obtain ⟨mb1, NA1, nc1, NL1, es1, clock1, kvs1, ls1, hh1⟩ := Hz.out
          have hNd1 := Lib.hid (hNds.out hr Hin.out _ mb1 NA1 nc1 NL1 es1 clock1 kvs1 ls1 hh1)
          have hnl1 : NL1.map (fun e : NodE => e.nm) = ns := by rw [← Hr0.out]; unfold Hse.names; rw [← hh1.nodes, List.map_map]; rfl
          have Hnl1 := Lib.hid hnl1
          have Hat1 := Lib.hid hh1
          clear hh1 hnl1
          obtain ⟨v1, rfl⟩ : ∃ v1, v1 = wr := ⟨_, rfl⟩
          go_wp2_with fail
          refine hNd1.out.mono ?_
          rintro e9 w3 ⟨v, rfl, B1, b1, L1, rfl, hx1, ho1, _, hb3⟩
          have hl1 : L1.map (fun e : NodE => e.nm) = ns := by
            have h1 := congrArg (List.map fun x : Nod => x.nm) hx1
            rw [List.map_map, List.map_map] at h1
            exact h1.trans Hnl1.out
          have hl1n : L1.length = ns.length := by rw [← hl1, List.length_map]
          have hn1n : NL1.length = ns.length := by rw [← Hnl1.out, List.length_map]
          rw [hn1n] at ho1 ⊢
          obtain ⟨m1, hm1⟩ : ∃ m1, ns.length = m1 := ⟨_, rfl⟩
          rw [hm1] at ho1 hl1n ⊢
          have hm120 : m1 ≤ 20 := by omega
          have Hm1 := Lib.hid hm1
          have Hl1 := Lib.hid (show ∀ j, j < m1 → (at_ L1 j).nm = at_ ns j ∧ j < L1.length ∧ j < ns.length from fun j hj => by
            have h1 : j < L1.length := by omega
            have h2 : j < ns.length := by omega
            refine ⟨?_, h1, h2⟩
            rw [at_eq h1, at_eq h2]
            simp only [← hl1, List.getElem_map])
          have hb3s : w1.heap.size ≤ w3.heap.size := Nat.le_trans hbs hb3.size
          have Ho1 := Lib.hid (show w3.ownsRow w1.heap.size 36 2 (.slice B1 m1 b1) m1 (nodCs L1) from own_less ho1 hbs)
          have Hz1 := Lib.hid (show HsM w3 w1.heap.size hb hr from ⟨_, _, _, _, _, _, _, _, Hat1.out.next hb3⟩)
          have Hoj1 := Lib.hid (hoj.out.trans (OutH.of hb3 hbs))
          have kx1' := Lib.hid (kxr.out.next hb3)
          clear hx1 ho1 hl1 hl1n hn1n hm1 hb3 hNd1
          go_wp2_with fail
          go_loopw [77] (fun i wr => ∃ j : Nat, j ≤ m1 ∧ i = .int .i64 (j : Nat) ∧ Hid (HsM wr w1.heap.size hb (markAll hr (ns.take j) true)) ∧ Hid (OutH w1.heap.size w1 wr) ∧ Hid (wr.ownsRow w1.heap.size 36 2 (.slice B1 m1 b1) m1 (nodCs L1)) ∧ Hid (Blk wr q 28 #[.slice p.t.A pn p.t.c, .int .i64 p.x.t, .int .i64 p.x.v])) (fun i _ => m1 + 5 - (intOf i).toNat)
          case atStart => exact ⟨0, by omega, rfl, Lib.hid (by rw [List.take_zero]; exact Hz1.out), Hoj1, Ho1, kx1'⟩
          case round =>
            obtain ⟨j, hj, rfl, hMj, hoj, hOj, kxr⟩ := hrel
            have hbs : w1.heap.size ≤ wr.heap.size := hoj.out.size
            by_cases hlt1 : (j : Int) < (m1 : Int)
            · obtain ⟨hnm, hjl, hjn⟩ := Hl1.out j (by omega)
              obtain ⟨ad, rfl, _, c0⟩ := (Has.of_own hOj.out).at (nodCs_0 hjl)
              obtain ⟨ad', e', _, c1⟩ := (Has.of_own hOj.out).at (nodCs_1 hjl)
              injection e' with e'
              subst e'
              have c1 := cell_off c1 (by decide)
              have hsz := Hnsf.out _ (at_mem hjn)
              have hset := Hset.out true hr Hin.out Hr0.out j hjn
              have htk := take_snoc hjn
              rw [hnm] at c0
              obtain ⟨nm, hnme⟩ : ∃ nm, at_ ns j = nm := ⟨_, rfl⟩
              rw [hnme] at c0 hsz hset htk
              obtain ⟨tA, ttA⟩ : ∃ v, (at_ L1 j).t.A = v := ⟨_, rfl⟩
              obtain ⟨tp, ttp⟩ : ∃ v, (at_ L1 j).t.l.length = v := ⟨_, rfl⟩
              obtain ⟨tc, ttc⟩ : ∃ v, (at_ L1 j).t.c = v := ⟨_, rfl⟩
              rw [ttA, ttp, ttc] at c1
              have q0 : (0 : Int) ≤ (j : Int) := by omega
              obtain ⟨W8, hW8⟩ : ∃ W8, wr.alloc (.cells #[.string nm, .slice tA tp tc] 36) = W8 := ⟨_, rfl⟩
              obtain ⟨q8, hq8⟩ : ∃ q8, wr.heap.size = q8 := ⟨_, rfl⟩
              have hb8 : Below wr.heap.size wr W8 := by rw [← hW8]; exact one_allocB _ _
              have k8 : Blk W8 q8 36 #[.string nm, .slice tA tp tc] := by rw [← hW8]; exact Blk.newD _ _ _ _ hq8
              have d0 : W8.cell? ⟨q8, 0, none⟩ = some (.string nm) := k8.cell 0
              have hUp := hup_any w1.heap.size hb (markAll hr (ns.take j) true) nm hsz W8 (hMj.out.next hb8)
              rw [hset] at hUp
              have hUp := Lib.hid hUp
              have Htk := Lib.hid (show markAll hr (ns.take (j + 1)) true = (markAll hr (ns.take j) true).mark nm true from by rw [htk, markAll_snoc])
              have ho8 := Lib.hid (hoj.out.trans (OutH.of hb8 hbs))
              have hO8 := Lib.hid (own_next hOj.out hb8)
              have kx8 := Lib.hid (kxr.out.next hb8)
              clear hnm hjl hjn hsz hset htk hnme ttA ttp ttc hb8 k8
              go_upto_region 14 with fail
              (try rw [hW8]); (try rw [hq8])
              clear hW8 hq8 c0 c1
              go_wp2_with fail
              refine hUp.out.mono ?_
              rintro e9 w9 ⟨rfl, hM9, hO9⟩
              have hM9 := Lib.hid (by rw [← Htk.out] at hM9; exact hM9)
              have ho9 := Lib.hid (ho8.out.trans hO9)
              have hOw9 := Lib.hid (hO9.own hO8.out (by unfold HsKind StKind; decide))
              have kx9 := Lib.hid (hO9.blk kx8.out (by unfold HsKind StKind; decide))
              clear hO9 d0
              go_wp2_with fail
              go_roundw
              case rel => exact ⟨j + 1, by omega, by go_num, hM9, ho9, hOw9, kx9⟩
              case measure => simp [intOf]; omega
            · obtain rfl : m1 = j := by omega
              have hz := hMj.out
              rw [show ns.take m1 = ns by rw [← Hm1.out, List.take_length], HhU.out] at hz
              have Hz := Lib.hid hz
              clear hz hMj Hz1 Hoj1 Ho1 kx1'
              obtain ⟨mbA, NAA, ncA, NLA, esA, clockA, kvsA, lsA, hhA⟩ := Hz.out
              have hAll1 := Lib.hid (hAl1.out hU HkU.out wr hoj.out mbA NAA ncA NLA esA clockA kvsA lsA hhA)
              have HhA := Lib.hid hhA
              clear hhA
              obtain ⟨vA, rfl⟩ : ∃ vA, vA = wr := ⟨_, rfl⟩
              go_wp2_with fail
              refine hAll1.out.mono ?_
              rintro e9 w4 ⟨v, rfl, AW, nW, cW, esW, rfl, hnW, hoW, hRW, hb4⟩
              have HnW := Lib.hid hnW
              have HoW := Lib.hid (own_less hoW hbs)
              have HRW := Lib.hid (hRW.less hbs)
              have Hz := Lib.hid (show HsM w4 w1.heap.size hb hU from ⟨_, _, _, _, _, _, _, _, HhA.out.next hb4⟩)
              have hoj := Lib.hid (hoj.out.trans (OutH.of hb4 hbs))
              have kxr := Lib.hid (kxr.out.next hb4)
              have hbs : w1.heap.size ≤ w4.heap.size := hoj.out.size
              obtain ⟨wr, rfl⟩ : ∃ wr, wr = w4 := ⟨_, rfl⟩
              have HR := HRW
              clear hnW hoW hRW hb4 hAll1 HhA hMj
              obtain ⟨mb2, NA2, nc2, NL2, es2, clock2, kvs2, ls2, hh2⟩ := Hz.out
              have hNd2 := Lib.hid (hNds.out hU HkU.out _ mb2 NA2 nc2 NL2 es2 clock2 kvs2 ls2 hh2)
              have hnl2 : NL2.map (fun e : NodE => e.nm) = ns := by rw [← HnU.out]; unfold Hse.names; rw [← hh2.nodes, List.map_map]; rfl
              have Hnl2 := Lib.hid hnl2
              have Hat2 := Lib.hid hh2
              clear hh2 hnl2
              obtain ⟨v2, rfl⟩ : ∃ v2, v2 = wr := ⟨_, rfl⟩
              go_wp2_with fail
              refine hNd2.out.mono ?_
              rintro e9 w3 ⟨v, rfl, B2, b2, L2, rfl, hx2, ho2, _, hb3⟩
              have hl2 : L2.map (fun e : NodE => e.nm) = ns := by
                have h1 := congrArg (List.map fun x : Nod => x.nm) hx2
                rw [List.map_map, List.map_map] at h1
                exact h1.trans Hnl2.out
              have hl2n : L2.length = ns.length := by rw [← hl2, List.length_map]
              have hn2n : NL2.length = ns.length := by rw [← Hnl2.out, List.length_map]
              rw [hn2n] at ho2 ⊢
              obtain ⟨m2, hm2⟩ : ∃ m2, ns.length = m2 := ⟨_, rfl⟩
              rw [hm2] at ho2 hl2n ⊢
              have hm220 : m2 ≤ 20 := by omega
              have Hm2 := Lib.hid hm2
              have Hl2 := Lib.hid (show ∀ j, j < m2 → (at_ L2 j).nm = at_ ns j ∧ j < L2.length ∧ j < ns.length from fun j hj => by
                have h1 : j < L2.length := by omega
                have h2 : j < ns.length := by omega
                refine ⟨?_, h1, h2⟩
                rw [at_eq h1, at_eq h2]
                simp only [← hl2, List.getElem_map])
              have hb3s : w1.heap.size ≤ w3.heap.size := Nat.le_trans hbs hb3.size
              have Ho2 := Lib.hid (show w3.ownsRow w1.heap.size 36 2 (.slice B2 m2 b2) m2 (nodCs L2) from own_less ho2 hbs)
              have Hz2 := Lib.hid (show HsM w3 w1.heap.size hb hU from ⟨_, _, _, _, _, _, _, _, Hat2.out.next hb3⟩)
              have Hoj2 := Lib.hid (hoj.out.trans (OutH.of hb3 hbs))
              have kx2' := Lib.hid (kxr.out.next hb3)
              have HR2 := Lib.hid (HR.out.next hb3)
              have HoW2 := Lib.hid (own_next HoW.out hb3)
              clear hx2 ho2 hl2 hl2n hn2n hm2 hb3 hNd2
              go_wp2_with fail
              go_loopw [92] (fun i wr => ∃ j : Nat, j ≤ m2 ∧ i = .int .i64 (j : Nat) ∧ Hid (HsM wr w1.heap.size hb (markAll hU (ns.take j) false)) ∧ Hid (OutH w1.heap.size w1 wr) ∧ Hid (wr.ownsRow w1.heap.size 36 2 (.slice B2 m2 b2) m2 (nodCs L2)) ∧ Hid (Blk wr q 28 #[.slice p.t.A pn p.t.c, .int .i64 p.x.t, .int .i64 p.x.v]) ∧ Hid (SerRow wr w1.heap.size esW (allH hU)) ∧ Hid (wr.ownsRow w1.heap.size 101 2 (.slice AW nW cW) nW (serCs esW))) (fun i _ => m2 + 5 - (intOf i).toNat)
              case atStart => exact ⟨0, by omega, rfl, Lib.hid (by rw [List.take_zero]; exact Hz2.out), Hoj2, Ho2, kx2', HR2, HoW2⟩
              case round =>
                obtain ⟨j, hj, rfl, hMj, hoj, hOj, kxr, hRj, hWj⟩ := hrel
                have hbs : w1.heap.size ≤ wr.heap.size := hoj.out.size
                by_cases hlt2 : (j : Int) < (m2 : Int)
                · obtain ⟨hnm, hjl, hjn⟩ := Hl2.out j (by omega)
                  obtain ⟨ad, rfl, _, c0⟩ := (Has.of_own hOj.out).at (nodCs_0 hjl)
                  obtain ⟨ad', e', _, c1⟩ := (Has.of_own hOj.out).at (nodCs_1 hjl)
                  injection e' with e'
                  subst e'
                  have c1 := cell_off c1 (by decide)
                  have hsz := Hnsf.out _ (at_mem hjn)
                  have hset := Hset.out false hU HkU.out HnU.out j hjn
                  have htk := take_snoc hjn
                  rw [hnm] at c0
                  obtain ⟨nm, hnme⟩ : ∃ nm, at_ ns j = nm := ⟨_, rfl⟩
                  rw [hnme] at c0 hsz hset htk
                  obtain ⟨tA, ttA⟩ : ∃ v, (at_ L2 j).t.A = v := ⟨_, rfl⟩
                  obtain ⟨tp, ttp⟩ : ∃ v, (at_ L2 j).t.l.length = v := ⟨_, rfl⟩
                  obtain ⟨tc, ttc⟩ : ∃ v, (at_ L2 j).t.c = v := ⟨_, rfl⟩
                  rw [ttA, ttp, ttc] at c1
                  have q0 : (0 : Int) ≤ (j : Int) := by omega
                  obtain ⟨W8, hW8⟩ : ∃ W8, wr.alloc (.cells #[.string nm, .slice tA tp tc] 36) = W8 := ⟨_, rfl⟩
                  obtain ⟨q8, hq8⟩ : ∃ q8, wr.heap.size = q8 := ⟨_, rfl⟩
                  have hb8 : Below wr.heap.size wr W8 := by rw [← hW8]; exact one_allocB _ _
                  have k8 : Blk W8 q8 36 #[.string nm, .slice tA tp tc] := by rw [← hW8]; exact Blk.newD _ _ _ _ hq8
                  have d0 : W8.cell? ⟨q8, 0, none⟩ = some (.string nm) := k8.cell 0
                  have hUp := hdown_any w1.heap.size hb (markAll hU (ns.take j) false) nm hsz W8 (hMj.out.next hb8)
                  rw [hset] at hUp
                  have hUp := Lib.hid hUp
                  have Htk := Lib.hid (show markAll hU (ns.take (j + 1)) false = (markAll hU (ns.take j) false).mark nm false from by rw [htk, markAll_snoc])
                  have ho8 := Lib.hid (hoj.out.trans (OutH.of hb8 hbs))
                  have hO8 := Lib.hid (own_next hOj.out hb8)
                  have kx8 := Lib.hid (kxr.out.next hb8)
                  have hR8 := Lib.hid (hRj.out.next hb8)
                  have hW8' := Lib.hid (own_next hWj.out hb8)
                  clear hnm hjl hjn hsz hset htk hnme ttA ttp ttc hb8 k8
                  go_upto_region 21 with fail
                  (try rw [hW8]); (try rw [hq8])
                  clear hW8 hq8 c0 c1
                  go_wp2_with fail
                  refine hUp.out.mono ?_
                  rintro e9 w9 ⟨rfl, hM9, hO9⟩
                  have hM9 := Lib.hid (by rw [← Htk.out] at hM9; exact hM9)
                  have ho9 := Lib.hid (ho8.out.trans hO9)
                  have hOw9 := Lib.hid (hO9.own hO8.out (by unfold HsKind StKind; decide))
                  have kx9 := Lib.hid (hO9.blk kx8.out (by unfold HsKind StKind; decide))
                  have hR9 := Lib.hid (hR8.out.outH hO9)
                  have hW9 := Lib.hid (hO9.own hW8'.out (by unfold HsKind StKind; decide))
                  clear hO9 d0
                  go_wp2_with fail
                  go_roundw
                  case rel => exact ⟨j + 1, by omega, by go_num, hM9, ho9, hOw9, kx9, hR9, hW9⟩
                  case measure => simp [intOf]; omega
                · obtain rfl : m2 = j := by omega
                  have hz := hMj.out
                  rw [show ns.take m2 = ns by rw [← Hm2.out, List.take_length], HhD.out] at hz
                  have Hz := Lib.hid hz
                  clear hz hMj Hz2 Hoj2 Ho2 kx2'
                  have HR := hRj
                  have HoW := hWj
                  have x0 : wr.cell? ⟨q, 0, none⟩ = some (.slice p.t.A pn p.t.c) := kxr.out.cell 0
                  have x1 : wr.cell? ⟨q, 1, none⟩ = some (.int .i64 p.x.t) := kxr.out.cell 1
                  have x2 : wr.cell? ⟨q, 2, none⟩ = some (.int .i64 p.x.v) := kxr.out.cell 2
                  have hP := Lib.hid (hPut.out wr hoj.out Hz.out)
                  have f1 : (fe == 0) = false := by simpa using q3
                  have f2 : (ge == 0) = false := by simpa using q4
                  clear hPut q3 q4 hRj hWj Hl1 Hl2 Hat1 Hat2 Hnl1 Hnl2
                  obtain ⟨vB, rfl⟩ : ∃ vB, vB = wr := ⟨_, rfl⟩
                  go_wp2_with fail
                  refine hP.out.mono ?_
                  rintro e9 w4 ⟨rfl, hM4, hO4⟩
                  obtain ⟨mbB, NAB, ncB, NLB, esB, clockB, kvsB, lsB, hhB⟩ := hM4
                  have hoj4 := hoj.out.trans hO4
                  have HR := Lib.hid (HR.out.outH hO4)
                  have HoW := Lib.hid (hO4.own HoW.out (by unfold HsKind StKind; decide))
                  have kx4 := hO4.blk kxr.out (by unfold HsKind StKind; decide)
                  have x0 : w4.cell? ⟨q, 0, none⟩ = some (.slice p.t.A pn p.t.c) := kx4.cell 0
                  have hG := Lib.hid (hGt.out w4 hoj4 mbB NAB ncB NLB esB clockB kvsB lsB hhB)
                  have HhB := Lib.hid hhB
                  have hoj := Lib.hid hoj4
                  have kxr := Lib.hid kx4
                  clear hhB hO4 hoj4 kx4 x1 x2 hGt hP
                  go_wp2_with fail
                  refine hG.out.mono ?_
                  rintro e9 w5 ⟨v, rfl, AG, nG, cG, rfl, hlG, hoG, hb5⟩
                  have hlG : 0 = nG := hlG
                  subst hlG
                  have hbs4 : w1.heap.size ≤ w4.heap.size := hoj.out.size
                  have hoj := Lib.hid (hoj.out.trans (OutH.of hb5 hbs4))
                  have HR := Lib.hid (HR.out.next hb5)
                  have HoW := Lib.hid (own_next HoW.out hb5)
                  have kxr := Lib.hid (kxr.out.next hb5)
                  have HhB := Lib.hid (HhB.out.next hb5)
                  have hA := Lib.hid (hAl1.out hD HkD.out w5 hoj.out mbB NAB ncB NLB esB clockB kvsB lsB HhB.out)
                  clear hoG hb5 hG x0
                  go_wp2_with fail
                  refine hA.out.mono ?_
                  rintro e9 w6 ⟨v, rfl, AH, nH, cH, esH, rfl, hnH, hoH, hRH, hb6⟩
                  rw [Q6.out] at hnH
                  have hnH : 0 = nH := hnH
                  subst hnH
                  have hbs5 : w1.heap.size ≤ w5.heap.size := hoj.out.size
                  have hoj := Lib.hid (hoj.out.trans (OutH.of hb6 hbs5))
                  have HR := Lib.hid (HR.out.next hb6)
                  have HoW := Lib.hid (own_next HoW.out hb6)
                  have kxr := Lib.hid (kxr.out.next hb6)
                  have Hz := Lib.hid (show HsM w6 w1.heap.size hb hD from ⟨_, _, _, _, _, _, _, _, HhB.out.next hb6⟩)
                  have hbs : w1.heap.size ≤ w6.heap.size := hoj.out.size
                  clear hoH hRH hb6 hA HhB
                  obtain ⟨wr, rfl⟩ : ∃ wr, wr = w6 := ⟨_, rfl⟩
                  obtain ⟨mb3, NA3, nc3, NL3, es3, clock3, kvs3, ls3, hh3⟩ := Hz.out
                  have hNd3 := Lib.hid (hNds.out hD HkD.out _ mb3 NA3 nc3 NL3 es3 clock3 kvs3 ls3 hh3)
                  have hnl3 : NL3.map (fun e : NodE => e.nm) = ns := by rw [← HnD.out]; unfold Hse.names; rw [← hh3.nodes, List.map_map]; rfl
                  have Hnl3 := Lib.hid hnl3
                  have Hat3 := Lib.hid hh3
                  clear hh3 hnl3
                  obtain ⟨v3, rfl⟩ : ∃ v3, v3 = wr := ⟨_, rfl⟩
                  go_wp2_with fail
                  refine hNd3.out.mono ?_
                  rintro e9 w3 ⟨v, rfl, B3, b3, L3, rfl, hx3, ho3, _, hb3⟩
                  have hl3 : L3.map (fun e : NodE => e.nm) = ns := by
                    have h1 := congrArg (List.map fun x : Nod => x.nm) hx3
                    rw [List.map_map, List.map_map] at h1
                    exact h1.trans Hnl3.out
                  have hl3n : L3.length = ns.length := by rw [← hl3, List.length_map]
                  have hn3n : NL3.length = ns.length := by rw [← Hnl3.out, List.length_map]
                  rw [hn3n] at ho3 ⊢
                  obtain ⟨m3, hm3⟩ : ∃ m3, ns.length = m3 := ⟨_, rfl⟩
                  rw [hm3] at ho3 hl3n ⊢
                  have hm320 : m3 ≤ 20 := by omega
                  have Hm3 := Lib.hid hm3
                  have Hl3 := Lib.hid (show ∀ j, j < m3 → (at_ L3 j).nm = at_ ns j ∧ j < L3.length ∧ j < ns.length from fun j hj => by
                    have h1 : j < L3.length := by omega
                    have h2 : j < ns.length := by omega
                    refine ⟨?_, h1, h2⟩
                    rw [at_eq h1, at_eq h2]
                    simp only [← hl3, List.getElem_map])
                  have hb3s : w1.heap.size ≤ w3.heap.size := Nat.le_trans hbs hb3.size
                  have Ho3 := Lib.hid (show w3.ownsRow w1.heap.size 36 2 (.slice B3 m3 b3) m3 (nodCs L3) from own_less ho3 hbs)
                  have Hz3 := Lib.hid (show HsM w3 w1.heap.size hb hD from ⟨_, _, _, _, _, _, _, _, Hat3.out.next hb3⟩)
                  have Hoj3 := Lib.hid (hoj.out.trans (OutH.of hb3 hbs))
                  have kx3' := Lib.hid (kxr.out.next hb3)
                  have HR3 := Lib.hid (HR.out.next hb3)
                  have HoW3 := Lib.hid (own_next HoW.out hb3)
                  clear hx3 ho3 hl3 hl3n hn3n hm3 hb3 hNd3
                  go_wp2_with fail
                  go_loopw [142] (fun i wr => ∃ j : Nat, j ≤ m3 ∧ i = .int .i64 (j : Nat) ∧ Hid (HsM wr w1.heap.size hb (markAll hD (ns.take j) true)) ∧ Hid (OutH w1.heap.size w1 wr) ∧ Hid (wr.ownsRow w1.heap.size 36 2 (.slice B3 m3 b3) m3 (nodCs L3)) ∧ Hid (Blk wr q 28 #[.slice p.t.A pn p.t.c, .int .i64 p.x.t, .int .i64 p.x.v]) ∧ Hid (SerRow wr w1.heap.size esW (allH hU)) ∧ Hid (wr.ownsRow w1.heap.size 101 2 (.slice AW nW cW) nW (serCs esW))) (fun i _ => m3 + 5 - (intOf i).toNat)
                  case atStart => exact ⟨0, by omega, rfl, Lib.hid (by rw [List.take_zero]; exact Hz3.out), Hoj3, Ho3, kx3', HR3, HoW3⟩
                  case round =>
                    obtain ⟨j, hj, rfl, hMj, hoj, hOj, kxr, hRj, hWj⟩ := hrel
                    have hbs : w1.heap.size ≤ wr.heap.size := hoj.out.size
                    by_cases hlt3 : (j : Int) < (m3 : Int)
                    · obtain ⟨hnm, hjl, hjn⟩ := Hl3.out j (by omega)
                      obtain ⟨ad, rfl, _, c0⟩ := (Has.of_own hOj.out).at (nodCs_0 hjl)
                      obtain ⟨ad', e', _, c1⟩ := (Has.of_own hOj.out).at (nodCs_1 hjl)
                      injection e' with e'
                      subst e'
                      have c1 := cell_off c1 (by decide)
                      have hsz := Hnsf.out _ (at_mem hjn)
                      have hset := Hset.out true hD HkD.out HnD.out j hjn
                      have htk := take_snoc hjn
                      rw [hnm] at c0
                      obtain ⟨nm, hnme⟩ : ∃ nm, at_ ns j = nm := ⟨_, rfl⟩
                      rw [hnme] at c0 hsz hset htk
                      obtain ⟨tA, ttA⟩ : ∃ v, (at_ L3 j).t.A = v := ⟨_, rfl⟩
                      obtain ⟨tp, ttp⟩ : ∃ v, (at_ L3 j).t.l.length = v := ⟨_, rfl⟩
                      obtain ⟨tc, ttc⟩ : ∃ v, (at_ L3 j).t.c = v := ⟨_, rfl⟩
                      rw [ttA, ttp, ttc] at c1
                      have q0 : (0 : Int) ≤ (j : Int) := by omega
                      obtain ⟨W8, hW8⟩ : ∃ W8, wr.alloc (.cells #[.string nm, .slice tA tp tc] 36) = W8 := ⟨_, rfl⟩
                      obtain ⟨q8, hq8⟩ : ∃ q8, wr.heap.size = q8 := ⟨_, rfl⟩
                      have hb8 : Below wr.heap.size wr W8 := by rw [← hW8]; exact one_allocB _ _
                      have k8 : Blk W8 q8 36 #[.string nm, .slice tA tp tc] := by rw [← hW8]; exact Blk.newD _ _ _ _ hq8
                      have d0 : W8.cell? ⟨q8, 0, none⟩ = some (.string nm) := k8.cell 0
                      have hUp := hup_any w1.heap.size hb (markAll hD (ns.take j) true) nm hsz W8 (hMj.out.next hb8)
                      rw [hset] at hUp
                      have hUp := Lib.hid hUp
                      have Htk := Lib.hid (show markAll hD (ns.take (j + 1)) true = (markAll hD (ns.take j) true).mark nm true from by rw [htk, markAll_snoc])
                      have ho8 := Lib.hid (hoj.out.trans (OutH.of hb8 hbs))
                      have hO8 := Lib.hid (own_next hOj.out hb8)
                      have kx8 := Lib.hid (kxr.out.next hb8)
                      have hR8 := Lib.hid (hRj.out.next hb8)
                      have hW8' := Lib.hid (own_next hWj.out hb8)
                      clear hnm hjl hjn hsz hset htk hnme ttA ttp ttc hb8 k8
                      go_upto_region 31 with fail
                      (try rw [hW8]); (try rw [hq8])
                      clear hW8 hq8 c0 c1
                      go_wp2_with fail
                      refine hUp.out.mono ?_
                      rintro e9 w9 ⟨rfl, hM9, hO9⟩
                      have hM9 := Lib.hid (by rw [← Htk.out] at hM9; exact hM9)
                      have ho9 := Lib.hid (ho8.out.trans hO9)
                      have hOw9 := Lib.hid (hO9.own hO8.out (by unfold HsKind StKind; decide))
                      have kx9 := Lib.hid (hO9.blk kx8.out (by unfold HsKind StKind; decide))
                      have hR9 := Lib.hid (hR8.out.outH hO9)
                      have hW9 := Lib.hid (hO9.own hW8'.out (by unfold HsKind StKind; decide))
                      clear hO9 d0
                      go_wp2_with fail
                      go_roundw
                      case rel => exact ⟨j + 1, by omega, by go_num, hM9, ho9, hOw9, kx9, hR9, hW9⟩
                      case measure => simp [intOf]; omega
                    · obtain rfl : m3 = j := by omega
                      have hz := hMj.out
                      rw [show ns.take m3 = ns by rw [← Hm3.out, List.take_length], Hback.out] at hz
                      have Hz := Lib.hid hz
                      clear hz hMj Hz3 Hoj3 Ho3 kx3'
                      obtain ⟨mbC, NAC, ncC, NLC, esC, clockC, kvsC, lsC, hhC⟩ := Hz.out
                      have hAll2 := Lib.hid (hAl1.out hU HkU.out wr hoj.out mbC NAC ncC NLC esC clockC kvsC lsC hhC)
                      have HR := hRj
                      have HoW := hWj
                      clear hhC hRj hWj
                      obtain ⟨vC, rfl⟩ : ∃ vC, vC = wr := ⟨_, rfl⟩
                      go_wp2_with fail
                      refine hAll2.out.mono ?_
                      rintro e9 w4 ⟨v, rfl, AX, nX, cX, esX, rfl, hnX, hoX, hRX, hb4⟩
                      have hal := HAl.out
                      have hS := sameSer_any AX AW nX nW cX cW (allH hU) (allH hU) esX esW _ _ hnX HnW.out (Nat.le_trans (own_len hoX).1 (own_len hoX).2) (Nat.le_trans (own_len HoW.out).1 (own_len HoW.out).2) w4 (Has.of_own hoX) hRX (Has.of_own (own_next HoW.out hb4)) (HR.out.next hb4)
                      rw [decide_eq_true rfl] at hS
                      have hS := Lib.hid hS
                      have hfin := Lib.hid (show Below W.heap.size W w4 from hb01.out.trans ((hoj.out.trans (OutH.of hb4 hbs)).below.mono hb01.out.size))
                      clear hnX hoX hRX hb4 hal
                      go_wp2_with fail
                      refine hS.out.mono ?_
                      rintro e9 w5 ⟨rfl, hb5⟩
                      have hb5 := Lib.hid hb5
                      go_wp2_with fail
                      go_ret
                      exact R1.mk rfl (bnext hfin.out hb5.out)
end Go.Proofs.YtihjgbhnlejhfaaGreatDoor
