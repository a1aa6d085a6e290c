/- Texts of the proof of HouseTrue, joined (by merge.py). Conditions: each theorem's own hypotheses. -/
import Derived.Test.YtihjgbhnlejhfaaGreatDoorHouseAcksP15
import Derived.Test.YtihjgbhnlejhfaaGreatDoorHouseAcksP20
import Derived.Test.YtihjgbhnlejhfaaGreatDoorHouseAcksP40
import Derived.Test.YtihjgbhnlejhfaaGreatDoorHouseAcksP41
import Derived.Test.YtihjgbhnlejhfaaGreatDoorHouseAcksP43
import Derived.Test.YtihjgbhnlejhfaaGreatDoorHouseTrueP1
namespace Go.Proofs.YtihjgbhnlejhfaaGreatDoor
open Go.Sort

theorem look_up_mem {l : List Smp} (h : Up l) {x : Smp} (hx : x ∈ l) {t v : Int} (hl : look l t = some v) (e : x.t = t) : x.v = v := by
  have h1 := look_of_mem h hx
  rw [e, hl] at h1
  injection h1 with h1
  exact h1.symm
theorem lacks_mem {had all : List Smp} {x : Smp} : x ∈ lacks had all ↔ x ∈ all ∧ lackB had x = true := by rw [lacks_eq, List.mem_filter]
/-- what a peer tells of a key and a time when it was given what it lacked -/
theorem give_look {puts : List Pt} {h : Hse} (k : HseI puts h) {p : Peer} (hp : p ∈ h.ps) {L : List Lab} {all : List Smp} (hr : PutRow puts L all) (key : ByteArray) (t : Int) :
    lookSt (giveF L all p).st key t = if txL L = key then join (lookSt p.st key t) (look all t) else lookSt p.st key t := by
  have hsub := give_sub (k.sub p hp) k.ok (L := L) all hr.up hr.mem p.qs (k.sub p hp) (fun q hq hn => absurd hq hn) fun q hq => hq
  have hin : ∀ q ∈ (giveF L all p).qs, SmpIn q.2 := fun q hq => (k.ok q (hsub.mem hq)).2
  have h1 := peer_top hin key t
  have h0 := peer_top (fun q hq => (k.ok q ((k.sub p hp).mem hq)).2) key t
  refine topP_ext h1 (qs := (giveF L all p).qs) ?_ fun _ => Iff.rfl
  have hqs : (giveF L all p).qs = p.qs ++ (lacks (hasK p (txL L)) all).map fun x => (L, x) := rfl
  rw [hqs]
  have hok : ∀ x ∈ all, okP (L, x) := fun x hx => (k.ok _ (hr.mem x hx)).1
  -- what is new and tells of the key and the time
  have hnew : ∀ q ∈ (lacks (hasK p (txL L)) all).map (fun x => (L, x)), hitP key t q → txL L = key ∧ ∃ x ∈ all, q = (L, x) ∧ x.t = t ∧ lackB (hasK p (txL L)) x = true := fun q hq hh => by
    obtain ⟨x, hx, rfl⟩ := List.mem_map.1 hq
    obtain ⟨h2, h3⟩ := lacks_mem.1 hx
    exact ⟨hh.2.1, x, h2, rfl, hh.2.2, h3⟩
  have old : ∀ (o : Option Int), topP key t p.qs o → (∀ q ∈ (lacks (hasK p (txL L)) all).map (fun x => (L, x)), hitP key t q → ∃ u, o = some u ∧ q.2.v ≤ u) → topP key t (p.qs ++ (lacks (hasK p (txL L)) all).map fun x => (L, x)) o := fun o ho hn => by
    rcases ho with ⟨e, h2⟩ | ⟨v, e, ⟨q, hq, hh, hv⟩, h2⟩
    · refine .inl ⟨e, fun q hq hh => ?_⟩
      rcases List.mem_append.1 hq with e2 | e2
      · exact h2 q e2 hh
      · obtain ⟨u, e3, _⟩ := hn q e2 hh
        rw [e] at e3; cases e3
    · refine .inr ⟨v, e, ⟨q, List.mem_append_left _ hq, hh, hv⟩, fun r hr2 hh2 => ?_⟩
      rcases List.mem_append.1 hr2 with e2 | e2
      · exact h2 r e2 hh2
      · obtain ⟨u, e3, h3⟩ := hn r e2 hh2
        rw [e] at e3
        injection e3 with e3
        omega
  by_cases hk : txL L = key
  · rw [if_pos hk]
    cases hl : look all t with
    | none =>
      have e : join (lookSt p.st key t) none = lookSt p.st key t := by cases lookSt p.st key t <;> rfl
      rw [e]
      refine old _ h0 fun q hq hh => ?_
      obtain ⟨_, x, hx, _, e2, _⟩ := hnew q hq hh
      have := look_of_mem hr.up hx
      rw [e2, hl] at this; cases this
    | some v =>
      have hx := mem_of_look hl
      by_cases hlb : lackB (hasK p (txL L)) ⟨t, v⟩ = true
      · -- it is given
        have hj : join (lookSt p.st key t) (some v) = some v := by
          cases ho : lookSt p.st key t with
          | none => rfl
          | some u =>
            rw [← hk, ← hasK_look] at ho
            have h2 : lackB (hasK p (txL L)) ⟨t, v⟩ = decide (u < v) := lackB_some ho
            rw [h2] at hlb
            have h3 := of_decide_eq_true hlb
            show some (max u v) = some v
            rw [Int.max_eq_right (by omega)]
        rw [hj]
        refine .inr ⟨v, rfl, ⟨(L, ⟨t, v⟩), List.mem_append_right _ (List.mem_map.2 ⟨_, lacks_mem.2 ⟨hx, hlb⟩, rfl⟩), ⟨hok _ hx, hk, rfl⟩, rfl⟩, fun q hq hh => ?_⟩
        rcases List.mem_append.1 hq with e2 | e2
        · rcases h0 with ⟨e3, h4⟩ | ⟨u, e3, _, h4⟩
          · exact absurd hh (h4 q e2)
          · have h5 := h4 q e2 hh
            rw [e3] at hj
            have h6 : some (max u v) = some v := hj
            injection h6 with h6
            omega
        · obtain ⟨_, x, hx2, rfl, e3, _⟩ := hnew q e2 hh
          exact Int.le_of_eq (look_up_mem hr.up hx2 hl e3)
      · -- it is there
        cases ho : lookSt p.st key t with
        | none =>
          exfalso
          rw [← hk, ← hasK_look] at ho
          exact hlb (lackB_none ho)
        | some u =>
          have ho2 := ho
          rw [← hk, ← hasK_look] at ho2
          have h2 : lackB (hasK p (txL L)) ⟨t, v⟩ = decide (u < v) := lackB_some ho2
          rw [h2] at hlb
          have h3 : ¬ u < v := fun e => hlb (decide_eq_true e)
          have hj : join (some u) (some v) = some u := by
            show some (max u v) = some u
            rw [Int.max_eq_left (by omega)]
          rw [hj]
          rw [ho] at h0
          refine old _ h0 fun q hq hh => ?_
          obtain ⟨_, x, hx2, rfl, e3, h4⟩ := hnew q hq hh
          exact ⟨u, rfl, by have := look_up_mem hr.up hx2 hl e3; show x.v ≤ u; omega⟩
  · rw [if_neg hk]
    refine old _ h0 fun q hq hh => ?_
    exact absurd (hnew q hq hh).1 hk
theorem find_giveTo (ps : List Peer) (ns : List ByteArray) (L : List Lab) (all : List Smp) (nm : ByteArray) : findP (giveTo ps ns L all) nm = (findP ps nm).map fun p : Peer => if isIn ns p.nm then giveF L all p else p := by
  rw [giveTo_map]
  exact find_mapAt (f := giveF L all) (fun _ => rfl) ps ns nm
theorem upP_giveTo (ps : List Peer) (ns : List ByteArray) (L : List Lab) (all : List Smp) (nm : ByteArray) : upP' (giveTo ps ns L all) nm = upP' ps nm := by
  unfold upP'
  rw [find_giveTo]
  cases findP ps nm with
  | none => rfl
  | some p =>
    simp only [Option.map_some]
    split <;> rfl
theorem liveK_giveTo (nodes : List Nod) (copies : Nat) (ps : List Peer) (ns : List ByteArray) (L : List Lab) (all : List Smp) (key : ByteArray) : liveK nodes copies (giveTo ps ns L all) key = liveK nodes copies ps key := by
  unfold liveK
  congr 1
  funext nm
  exact upP_giveTo ps ns L all nm
theorem getH_bad {h : Hse} {L : List Lab} (hc : chkL L ≠ 0) : getH h L = (chkL L, []) := by unfold getH; rw [if_pos hc]
theorem getH_none {h : Hse} {L : List Lab} (hc : chkL L = 0) (hg : getK h (txL L) = none) : getH h L = (13, []) := by unfold getH; rw [if_neg (by simpa using hc), hg]
theorem getH_some {h : Hse} {L : List Lab} {l : List Smp} (hc : chkL L = 0) (hg : getK h (txL L) = some l) : getH h L = (0, l) := by unfold getH; rw [if_neg (by simpa using hc), hg]
theorem mendH_bad {h : Hse} {L : List Lab} (hc : chkL L ≠ 0) : mendH h L = (h, chkL L) := by unfold mendH; rw [if_pos hc]
theorem mendH_none {h : Hse} {L : List Lab} (hc : chkL L = 0) (hg : getK h (txL L) = none) : mendH h L = (h, 13) := by unfold mendH; rw [if_neg (by simpa using hc), hg]
theorem mendH_some {h : Hse} {L : List Lab} {l : List Smp} (hc : chkL L = 0) (hg : getK h (txL L) = some l) : mendH h L = ({ h with ps := giveTo h.ps (liveK h.nodes h.copies h.ps (txL L)) L l }, 0) := by unfold mendH; rw [if_neg (by simpa using hc), hg]
/-- a key that is read: what each that is up and owns it has then is all that is read -/
theorem mend_get {puts : List Pt} {h : Hse} (k : HseI puts h) (hm : puts.length ≤ 22) (hrd : 1 ≤ h.read) (L : List Lab) : (mendH h L).2 = (getH h L).1 ∧ getH (mendH h L).1 L = getH h L := by
  by_cases hchk : chkL L = 0
  · cases hg : getK h (txL L) with
    | none =>
      rw [mendH_none hchk hg]
      exact ⟨by rw [getH_none hchk hg], rfl⟩
    | some all =>
      have hr := (getK_row k hm hg).1
      rw [labOf_tx hchk] at hr
      rw [mendH_some hchk hg]
      refine ⟨by rw [getH_some hchk hg], ?_⟩
      rw [getH_some hchk hg]
      have hg2 := hg
      rw [getK_eq] at hg2
      by_cases hlen : (liveK h.nodes h.copies h.ps (txL L)).length < h.read
      · rw [if_pos hlen] at hg2; cases hg2
      · rw [if_neg hlen] at hg2
        injection hg2 with hg2
        refine getH_some hchk ?_
        rw [getK_eq]
        have hlv : liveK h.nodes h.copies (giveTo h.ps (liveK h.nodes h.copies h.ps (txL L)) L all) (txL L) = liveK h.nodes h.copies h.ps (txL L) := liveK_giveTo _ _ _ _ _ _ _
        have e9 : ∀ (ps : List Peer), ps = giveTo h.ps (liveK h.nodes h.copies h.ps (txL L)) L all → (if (liveK h.nodes h.copies ps (txL L)).length < h.read then none else some (mergeAll (hasN ps (txL L)) (liveK h.nodes h.copies ps (txL L)) [])) = some (mergeAll (hasN ps (txL L)) (liveK h.nodes h.copies h.ps (txL L)) []) := fun ps e => by
          rw [show liveK h.nodes h.copies ps (txL L) = liveK h.nodes h.copies h.ps (txL L) from by rw [e]; exact hlv, if_neg hlen]
        refine (e9 _ rfl).trans ?_
        congr 1
        have k2 := give_house k (ns := liveK h.nodes h.copies h.ps (txL L)) hr
        have hup2 : ∀ nm, Up (hasN (giveTo h.ps (liveK h.nodes h.copies h.ps (txL L)) L all) (txL L) nm) := fun nm => hasN_up k2 hm (txL L) nm
        have hN : ∀ nm ∈ liveK h.nodes h.copies h.ps (txL L), ∀ t, look (hasN (giveTo h.ps (liveK h.nodes h.copies h.ps (txL L)) L all) (txL L) nm) t = look all t := fun nm hnm t => by
          obtain ⟨p, hf, hp⟩ := liveK_find k.hse (txL L) nm hnm
          have hpn := (findP_mem hf).2
          have e4 : hasN (giveTo h.ps (liveK h.nodes h.copies h.ps (txL L)) L all) (txL L) nm = hasK (giveF L all p) (txL L) := by
            unfold hasN
            rw [find_giveTo, hf]
            simp only [Option.map_some]
            rw [if_pos (isIn_iff.2 (by rw [hpn]; exact hnm))]
          rw [e4, hasK_look, give_look k hp hr, if_pos rfl, ← hasK_look]
          have e5 : hasN h.ps (txL L) nm = hasK p (txL L) := by unfold hasN; rw [hf]
          cases hl : look (hasK p (txL L)) t with
          | none => cases look all t <;> rfl
          | some v =>
            obtain ⟨u, h5, h6⟩ := mergeAll_ge (f := hasN h.ps (txL L)) (t := t) (v := v) (liveK h.nodes h.copies h.ps (txL L)) [] (fun nm _ => hasN_up k hm (txL L) nm) List.Pairwise.nil (.inr ⟨nm, hnm, by rw [e5]; exact hl⟩)
            rw [hg2] at h5
            rw [h5]
            show some (max v u) = some u
            rw [Int.max_eq_right h6]
        refine look_ext _ _ (mergeAll_up _ _ (fun nm _ => hup2 nm) List.Pairwise.nil) hr.up fun t => ?_
        cases hl : look all t with
        | none =>
          cases hm2 : look (mergeAll (hasN (giveTo h.ps (liveK h.nodes h.copies h.ps (txL L)) L all) (txL L)) (liveK h.nodes h.copies h.ps (txL L)) []) t with
          | none => rfl
          | some v =>
            rcases mergeAll_some _ _ (fun nm _ => hup2 nm) List.Pairwise.nil hm2 with e | ⟨nm, hnm, e⟩
            · cases e
            · rw [hN nm hnm, hl] at e; cases e
        | some v =>
          obtain ⟨nm, hnm⟩ : ∃ nm, nm ∈ liveK h.nodes h.copies h.ps (txL L) := by
            cases hl2 : liveK h.nodes h.copies h.ps (txL L) with
            | nil => rw [hl2] at hlen; simp at hlen; omega
            | cons nm _ => exact ⟨nm, List.mem_cons_self⟩
          obtain ⟨u, h5, h6⟩ := mergeAll_ge (t := t) (v := v) (liveK h.nodes h.copies h.ps (txL L)) [] (fun nm _ => hup2 nm) List.Pairwise.nil (.inr ⟨nm, hnm, by rw [hN nm hnm]; exact hl⟩)
          rw [h5]
          rcases mergeAll_some _ _ (fun nm _ => hup2 nm) List.Pairwise.nil h5 with e | ⟨nm2, hnm2, e⟩
          · cases e
          · rw [hN nm2 hnm2, hl] at e; exact e.symm
  · rw [mendH_bad hchk]
    exact ⟨by rw [getH_bad hchk], rfl⟩
/-- keys of what is gathered -/
theorem joinS_keys (st : StD) (y : Ser) (k : ByteArray) : k ∈ (joinS st y).map (·.1) ↔ k ∈ st.map (·.1) ∨ txL y.1 = k := by
  have hput : ∀ z : Ser, k ∈ (putSt st (txL y.1) z).map (·.1) ↔ k ∈ st.map (·.1) ∨ txL y.1 = k := fun z => by
    rcases put_keys st (txL y.1) z with ⟨h1, e⟩ | ⟨_, e⟩
    · rw [e]
      exact ⟨.inl, fun h => h.elim id fun e2 => by rw [← e2]; exact h1⟩
    · rw [e, List.mem_append, List.mem_singleton]
      exact ⟨fun h => h.elim .inl fun e2 => .inr e2.symm, fun h => h.elim .inl fun e2 => .inr e2.symm⟩
  unfold joinS
  cases findSt st (txL y.1) <;> exact hput _
theorem joins_keys : ∀ (l : List Ser) (st : StD) (k : ByteArray), k ∈ (l.foldl joinS st).map (·.1) ↔ k ∈ st.map (·.1) ∨ ∃ y ∈ l, txL y.1 = k
  | [], st, k => ⟨.inl, fun h => h.elim id fun ⟨_, h, _⟩ => absurd h (List.not_mem_nil)⟩
  | y :: l, st, k => by
    rw [List.foldl_cons, joins_keys l, joinS_keys]
    constructor
    · rintro ((h | h) | ⟨z, hz, e⟩)
      · exact .inl h
      · exact .inr ⟨y, List.mem_cons_self, h⟩
      · exact .inr ⟨z, List.mem_cons_of_mem _ hz, e⟩
    · rintro (h | ⟨z, hz, e⟩)
      · exact .inl (.inl h)
      · rcases List.mem_cons.1 hz with e2 | e2
        · rw [e2] at e; exact .inl (.inr e)
        · exact .inr ⟨z, e2, e⟩
theorem gather_keys (ps : List Peer) (names : List ByteArray) (k : ByteArray) : k ∈ (gatherH ps names).map (·.1) ↔ ∃ nm ∈ names, ∃ y ∈ serOf ps nm, txL y.1 = k := by
  refine snocRec (motive := fun names => k ∈ (gatherH ps names).map (·.1) ↔ ∃ nm ∈ names, ∃ y ∈ serOf ps nm, txL y.1 = k) ?_ (fun names nm ih => ?_) names
  · exact ⟨fun h => absurd h (List.not_mem_nil), fun ⟨_, h, _⟩ => absurd h (List.not_mem_nil)⟩
  · rw [gather_snoc, joins_keys, ih]
    constructor
    · rintro (⟨n, hn, h⟩ | h)
      · exact ⟨n, List.mem_append_left _ hn, h⟩
      · exact ⟨nm, by simp, h⟩
    · rintro ⟨n, hn, h⟩
      rcases List.mem_append.1 hn with e | e
      · exact .inl ⟨n, e, h⟩
      · rw [List.mem_singleton] at e
        rw [e] at h
        exact .inr h
theorem serOf_keys {puts : List Pt} {h : Hse} (k : HseI puts h) (hm : puts.length ≤ 22) (nm key : ByteArray) : (∃ y ∈ serOf h.ps nm, txL y.1 = key) ↔ ∃ p, findP h.ps nm = some p ∧ p.up = true ∧ hasKey p key := by
  unfold serOf
  cases hf : findP h.ps nm with
  | none => exact ⟨fun ⟨_, h, _⟩ => absurd h (List.not_mem_nil), fun ⟨_, h, _⟩ => by cases h⟩
  | some p =>
    have hpk := k.peer hm (findP_mem hf).1
    simp only []
    by_cases hu : p.up = true
    · rw [if_pos hu]
      constructor
      · rintro ⟨y, hy, e⟩
        obtain ⟨j, hj, e2⟩ := List.getElem_of_mem hy
        exact ⟨p, rfl, hu, (hasKey_iff hpk.ok key).2 ⟨j, hj, by rw [at_eq hj, e2, e]⟩⟩
      · rintro ⟨q, e, _, hk⟩
        injection e with e
        subst e
        obtain ⟨j, hj, e2⟩ := (hasKey_iff hpk.ok key).1 hk
        exact ⟨_, at_mem hj, e2⟩
    · rw [if_neg hu]
      exact ⟨fun ⟨_, h, _⟩ => absurd h (List.not_mem_nil), fun ⟨q, e, h2, _⟩ => by injection e with e; rw [← e] at h2; exact absurd h2 hu⟩
theorem hasKey_look {p : Peer} (h : PeerOk p) (key : ByteArray) : hasKey p key ↔ ∃ t, lookSt p.st key t ≠ none := by
  rw [← key_iff h.inv key]
  unfold hasKey
  exact ⟨fun hk => Classical.byContradiction fun e => hk (find_none_iff.2 e), fun hk e => find_none_iff.1 e hk⟩
theorem allH_len (h : Hse) : (allH h).length = (gatherH h.ps (h.nodes.map fun x : Nod => x.nm)).length := by unfold allH; rw [allN_len]
theorem mend_keys {puts : List Pt} {h : Hse} (k : HseI puts h) (hm : puts.length ≤ 22) (L : List Lab) : (allH h).length ≤ (allH (mendH h L).1).length := by
  have k2 := mendH_sub k hm L
  rw [allH_len, allH_len]
  have h1 := (gather_ok k hm (h.nodes.map fun x : Nod => x.nm)).keys
  have h2 : ((gatherH h.ps (h.nodes.map fun x : Nod => x.nm)).map (·.1)).length ≤ ((gatherH (mendH h L).1.ps ((mendH h L).1.nodes.map fun x : Nod => x.nm)).map (·.1)).length := nodup_le h1 fun key hkey => by
    rw [gather_keys] at hkey ⊢
    obtain ⟨nm, hnm, hy⟩ := hkey
    obtain ⟨p, hf, hu, hk⟩ := (serOf_keys k hm nm key).1 hy
    have hn : (mendH h L).1.nodes = h.nodes := by
      unfold mendH
      split
      · rfl
      · cases getK h (txL L) <;> rfl
    rw [hn]
    refine ⟨nm, hnm, (serOf_keys k2 hm nm key).2 ?_⟩
    unfold mendH
    by_cases hchk : chkL L = 0
    · rw [if_neg (by simpa using hchk)]
      cases hg : getK h (txL L) with
      | none => exact ⟨p, hf, hu, hk⟩
      | some all =>
        have hr := (getK_row k hm hg).1
        rw [labOf_tx hchk] at hr
        have hp := (findP_mem hf).1
        refine ⟨_, by show findP (giveTo h.ps _ L all) nm = _; rw [find_giveTo, hf]; rfl, ?_, ?_⟩
        · dsimp only
          split
          · exact hu
          · exact hu
        · dsimp only
          split
          · have hsub := give_sub (k.sub p hp) k.ok (L := L) all hr.up hr.mem p.qs (k.sub p hp) (fun q hq hn => absurd hq hn) fun q hq => hq
            have hok : PeerOk (giveF L all p) := ⟨Nat.le_trans hsub.len hm, fun q hq => (k.ok q (hsub.mem hq)).2⟩
            obtain ⟨t, ht⟩ := (hasKey_look (k.peer hm hp).ok key).1 hk
            refine (hasKey_look hok key).2 ⟨t, ?_⟩
            rw [give_look k hp hr]
            split
            · cases hl : lookSt p.st key t with
              | none => exact absurd hl ht
              | some v => cases look all t <;> simp [join]
            · exact ht
          · exact hk
    · rw [if_pos hchk]
      exact ⟨p, hf, hu, hk⟩
  rw [List.length_map, List.length_map] at h2
  exact h2
end Go.Proofs.YtihjgbhnlejhfaaGreatDoor
namespace Go.Proofs.YtihjgbhnlejhfaaGreatDoor
open Go.RowKit

theorem eqlSmp (w : World) (a b c d : Int) : (binOp .eql 26 (.agg #[.int .i64 a, .int .i64 b]) (.agg #[.int .i64 c, .int .i64 d])).run Tryz.prog w = .ok (.bool (a == c && b == d)) w := by
  rw [run_eql_struct, run_equalIn_struct w 9999 26 _ _ unSmp shSmp, foSmp]
  simp [Op.eqFields, go_sem]
  by_cases h1 : a = c <;> by_cases h2 : b = d <;> simp [h1, h2]
/-- a put of these labels and this sample -/
def IsT (e : StpE) (x : Smp) (ask : List Lab) : Prop := e.kind = 1 ∧ e.x = x ∧ e.t.l = ask
instance (e : StpE) (x : Smp) (ask : List Lab) : Decidable (IsT e x ask) := by unfold IsT; exact inferInstance
/-- the closure's fun value: it holds the cells of the sample and of the labels sought -/
def trueF (qz q5 : Nat) : Value := .func (.func 18) #[] #[.pointer (some ⟨qz, 0, none⟩), .pointer (some ⟨q5, 0, none⟩)]
set_option maxRecDepth 1000000 in
set_option maxHeartbeats 4000000 in
theorem true1_any (B : Nat) (e : StpE) (n p : Nat) (hn : e.t.l.length = n) (_hp : e.node.t.l.length = p) (qz : Nat) (x : Smp) (q5 : Nat) (A5 : Option Addr) (c5 an : Nat) (ask : List Lab) (han : ask.length = an) (hal : an ≤ maxLen) (w : World) (he : StpIn B w e) (hB : B ≤ w.heap.size)
    (kz : Blk w qz 26 #[.int .i64 x.t, .int .i64 x.v]) (k5 : Blk w q5 24 #[.slice A5 an c5]) (h5 : Has w w.heap.size A5 (labCs ask)) :
    Calls Tryz.prog 18 #[.agg #[.int .i64 e.kind, .int .i64 e.keep, .slice e.t.A n e.t.c, .int .i64 e.x.t, .int .i64 e.x.v, .string e.nm, .string e.node.nm, .slice e.node.t.A p e.node.t.c], .pointer (some ⟨qz, 0, none⟩), .pointer (some ⟨q5, 0, none⟩)] w
      (R1 (.bool (decide (IsT e x ask))) (Below w.heap.size w)) := by
  obtain ⟨W0, hW0⟩ : ∃ W0, w.alloc (.cells #[.int .i64 e.kind, .int .i64 e.keep, .slice e.t.A n e.t.c, .int .i64 e.x.t, .int .i64 e.x.v, .string e.nm, .string e.node.nm, .slice e.node.t.A p e.node.t.c] 38) = W0 := ⟨_, rfl⟩
  obtain ⟨q, hq⟩ : ∃ q, w.heap.size = q := ⟨_, rfl⟩
  have hb0 : Below w.heap.size w W0 := by rw [← hW0]; exact one_allocB _ _
  have kx : Blk W0 q 38 #[.int .i64 e.kind, .int .i64 e.keep, .slice e.t.A n e.t.c, .int .i64 e.x.t, .int .i64 e.x.v, .string e.nm, .string e.node.nm, .slice e.node.t.A p e.node.t.c] := by rw [← hW0]; exact Blk.newD _ _ _ _ hq
  have d0 : W0.cell? ⟨q, 0, none⟩ = some (.int .i64 e.kind) := kx.cell 0
  have d2 : W0.cell? ⟨q, 2, none⟩ = some (.slice e.t.A n e.t.c) := kx.cell 2
  have d3 : W0.cell? ⟨q, 3, none⟩ = some (.int .i64 e.x.t) := kx.cell 3
  have d4 : W0.cell? ⟨q, 4, none⟩ = some (.int .i64 e.x.v) := kx.cell 4
  have z0 : W0.cell? ⟨qz, 0, none⟩ = some (.int .i64 x.t) := (kz.next hb0).cell 0
  have z1 : W0.cell? ⟨qz, 1, none⟩ = some (.int .i64 x.v) := (kz.next hb0).cell 1
  have y0 : W0.cell? ⟨q5, 0, none⟩ = some (.slice A5 an c5) := (k5.next hb0).cell 0
  have hnl : n ≤ maxLen := by have h1 := he.lc; have h2 := he.cm; omega
  have HL := sameLabN_any e.t.A A5 n an e.t.c c5 e.t.l ask hn han hnl hal W0 ((he.row.more hB).next hb0) (h5.next hb0)
  obtain ⟨b, hb⟩ : ∃ b, decide (e.t.l = ask) = b := ⟨_, rfl⟩
  rw [hb] at HL
  have hgoal : decide (IsT e x ask) = (decide (e.kind = 1) && decide (e.x = x) && b) := by
    rw [← hb]
    unfold IsT
    by_cases h1 : e.kind = 1 <;> by_cases h2 : e.x = x <;> by_cases h3 : e.t.l = ask <;> simp [h1, h2, h3]
  have hxx : (decide (e.x = x)) = (e.x.t == x.t && e.x.v == x.v) := by
    by_cases h2 : e.x = x
    · rw [h2]; simp
    · rw [decide_eq_false h2]
      symm
      rw [Bool.and_eq_false_iff, beq_eq_false_iff_ne, beq_eq_false_iff_ne]
      by_cases h3 : e.x.t = x.t
      · refine .inr fun h4 => h2 ?_
        cases hx : e.x; cases hy : x; rw [hx, hy] at h3 h4; simp at h3 h4; simp [h3, h4]
      · exact .inl h3
  rw [hgoal, hxx]
  have hq1 := eqlSmp
  have hq2 := guardSmp
  have HL := Lib.hid HL
  have HW0 := Lib.hid hW0
  have Hq := Lib.hid hq
  replace hb0 := Lib.hid hb0
  clear hb hgoal hxx hn _hp han hal he hB kz k5 h5 hW0 hq kx hnl
  by_cases hk : e.kind = 1
  · rw [hk, decide_eq_true rfl, Bool.true_and]
    rw [hk] at d0 HW0
    cases hv : (e.x.t == x.t && e.x.v == x.v)
    · rw [Bool.false_and]
      go_enter Tryz.func18, Tryz.ntmps18
      go_upto_region 1 with fail
      rw [HW0.out, Hq.out]
      go_wp2_with fail
      go_ret
      exact R1.mk rfl hb0.out
    · rw [Bool.true_and]
      go_enter Tryz.func18, Tryz.ntmps18
      go_upto_region 1 with fail
      rw [HW0.out, Hq.out]
      go_wp2_with fail
      refine HL.out.mono ?_
      rintro e w1 ⟨rfl, nd, rfl⟩
      go_wp2_with fail
      go_ret
      exact R1.mk rfl (below_drewN hb0.out _)
  · rw [decide_eq_false hk, Bool.false_and, Bool.false_and]
    have f0 : (e.kind == 1) = false := by rw [beq_eq_false_iff_ne]; exact hk
    replace hk := Lib.hid hk
    go_enter Tryz.func18, Tryz.ntmps18
    go_upto_region 1 with fail
    rw [HW0.out, Hq.out]
    go_wp2_with fail
    go_ret
    exact R1.mk rfl hb0.out
/-- where such a put first stands, or -1 -/
def IdxTP (l : List StpE) (x : Smp) (ask : List Lab) (v : Value) : Prop := ∃ i : Int, v = .int .i64 i ∧ (0 ≤ i ↔ ∃ e ∈ l, IsT e x ask)
set_option maxRecDepth 1000000 in
set_option maxHeartbeats 4000000 in
theorem idxT_any (B : Nat) (l : List StpE) (n : Nat) (hln : l.length = n) (A : Option Addr) (c : Nat) (hn : n ≤ maxLen) (qz : Nat) (x : Smp) (q5 : Nat) (A5 : Option Addr) (c5 an : Nat) (ask : List Lab) (han : ask.length = an) (hal : an ≤ maxLen) (w : World) (hS : ∀ e ∈ l, StpIn B w e) (hB : B ≤ w.heap.size) (h : Has w w.heap.size A (stpCs l))
    (kz : Blk w qz 26 #[.int .i64 x.t, .int .i64 x.v]) (k5 : Blk w q5 24 #[.slice A5 an c5]) (h5 : Has w w.heap.size A5 (labCs ask)) :
    Calls Tryz.prog 44 #[.slice A n c, trueF qz q5] w (RV fun v w' => IdxTP l x ask v ∧ Below w.heap.size w w') := by
  unfold maxLen at hn
  unfold trueF
  have Hl := Lib.hid hln
  have HB := Lib.hid hB
  replace h := Lib.hid h
  replace hS := Lib.hid hS
  replace kz := Lib.hid kz
  replace k5 := Lib.hid k5
  replace h5 := Lib.hid h5
  replace han := Lib.hid han
  replace hal := Lib.hid hal
  clear hln hB
  go_enter Tryz.func44, Tryz.ntmps44
  go_wp2_with fail
  go_loopw [8] (fun iv wr => ∃ k : Nat, k ≤ n ∧ iv = .int .i64 (k : Nat) ∧ Hid (∀ q, q < k → ¬ IsT (at_ l q) x ask) ∧ Below w.heap.size w wr) (fun iv _ => n + 5 - (intOf iv).toNat)
  case atStart => exact ⟨0, by omega, rfl, Lib.hid (fun q hq => by omega), Below.refl _ _⟩
  case round =>
    obtain ⟨k, hk, rfl, hq, hbr⟩ := hrel
    by_cases hlt : (k : Int) < (n : Int)
    · have hj1 : k < l.length := by rw [Hl.out]; omega
      obtain ⟨ad, had, g0, g1, g2, g3, g4, g5, g6, g7⟩ := stp_cells (h.out.next hbr) hj1
      have hs := (hS.out _ (at_mem hj1)).next (Below.mono hbr HB.out)
      have hmem := at_mem hj1
      obtain ⟨e, he⟩ : ∃ e, at_ l k = e := ⟨_, rfl⟩
      have HY := Lib.hid he
      rw [he] at g0 g1 g2 g3 g4 g5 g6 g7 hs hmem
      obtain ⟨n1, hn1⟩ : ∃ n, e.t.l.length = n := ⟨_, rfl⟩
      obtain ⟨p1, hp1⟩ : ∃ n, e.node.t.l.length = n := ⟨_, rfl⟩
      rw [hn1] at g2
      rw [hp1] at g7
      have h0k : (0 : Int) ≤ (k : Int) := by omega
      have HC := true1_any B e n1 p1 hn1 hp1 qz x q5 A5 c5 an ask han.out hal.out wr hs (Nat.le_trans HB.out hbr.size) (kz.out.next hbr) (k5.out.next hbr) (h5.out.next hbr)
      have hbs := hbr.size
      subst had
      obtain ⟨b, hb⟩ : ∃ b, decide (IsT e x ask) = b := ⟨_, rfl⟩
      rw [hb] at HC
      have Hb := Lib.hid hb
      replace HC := Lib.hid HC
      replace hmem := Lib.hid hmem
      clear hb hs he hn1 hp1 hj1
      go_wp2_with fail
      refine HC.out.mono ?_
      rintro e9 w2 ⟨rfl, hb2⟩
      have hb02 := hbr.trans (hb2.mono hbs)
      cases b
      · go_wp2_with fail
        go_roundw
        case rel => exact ⟨k + 1, by omega, by go_num, Lib.hid (fun q hq2 => by
          rcases Nat.lt_or_ge q k with g | g
          · exact hq.out q g
          · obtain rfl : q = k := by omega
            rw [HY.out]; exact of_decide_eq_false Hb.out), hb02⟩
        case measure => simp [intOf]; omega
      · have HP := Lib.hid (show IdxTP l x ask (.int .i64 (k : Nat)) from ⟨_, rfl, ⟨fun _ => ⟨e, hmem.out, of_decide_eq_true Hb.out⟩, fun _ => h0k⟩⟩)
        go_wp2_with fail
        go_ret
        exact RV.mk ⟨HP.out, hb02⟩
    · obtain rfl : n = k := by omega
      have HP := Lib.hid (show IdxTP l x ask (.int .i64 (-1)) from ⟨_, rfl, ⟨fun h => absurd h (by decide), fun ⟨e, h, ht⟩ => by
        obtain ⟨q, hq1, e2⟩ := List.getElem_of_mem h
        exact absurd (by rw [at_eq hq1, e2]; exact ht) (hq.out q (by rw [← Hl.out]; exact hq1))⟩⟩)
      go_wp2_with fail
      go_ret
      exact RV.mk ⟨HP.out, hbr⟩
set_option maxRecDepth 1000000 in
set_option maxHeartbeats 4000000 in
theorem hasT_any (B : Nat) (l : List StpE) (n : Nat) (hln : l.length = n) (A : Option Addr) (c : Nat) (hn : n ≤ maxLen) (qz : Nat) (x : Smp) (q5 : Nat) (A5 : Option Addr) (c5 an : Nat) (ask : List Lab) (han : ask.length = an) (hal : an ≤ maxLen) (w : World) (hS : ∀ e ∈ l, StpIn B w e) (hB : B ≤ w.heap.size) (h : Has w w.heap.size A (stpCs l))
    (kz : Blk w qz 26 #[.int .i64 x.t, .int .i64 x.v]) (k5 : Blk w q5 24 #[.slice A5 an c5]) (h5 : Has w w.heap.size A5 (labCs ask)) (hmem : ∃ e ∈ l, IsT e x ask) :
    Calls Tryz.prog 17 #[.slice A n c, trueF qz q5] w (R1 (.bool true) (Below w.heap.size w)) := by
  have HI := idxT_any B l n hln A c hn qz x q5 A5 c5 an ask han hal w hS hB h kz k5 h5
  unfold trueF at HI ⊢
  replace HI := Lib.hid HI
  replace hmem := Lib.hid hmem
  clear h kz k5 h5 hln hn han hal hS hB
  go_enter Tryz.func17, Tryz.ntmps17
  go_wp2_with fail
  refine HI.out.mono ?_
  rintro e w1 ⟨u, rfl, ⟨i, rfl, hi⟩, hb1⟩
  have h0 : (0 : Int) ≤ i := hi.2 hmem.out
  clear hi
  go_wp2_with fail
  go_ret
  exact R1.mk (bool_eq (by simp)) hb1
end Go.Proofs.YtihjgbhnlejhfaaGreatDoor
namespace Go.Proofs.YtihjgbhnlejhfaaGreatDoor

theorem up_ordH {l : List Smp} (h : Up l) : ∀ k, k < l.length → ordUp l k = true
  | 0, _ => rfl
  | k + 1, hk => by
    have h1 := up_ordH h k (by omega)
    have h2 := (List.pairwise_iff_getElem.1 h) k (k + 1) (by omega) hk (by omega)
    rw [ordUp, h1, at_eq (by omega), at_eq hk]
    simpa using h2
theorem chkS_upH {l : List Smp} (h : Up l) (h1 : l.length ≤ 1000) : chkS l = 0 := by
  unfold chkS
  rw [if_neg (by omega), if_pos]
  cases l with
  | nil => rfl
  | cons x l => exact up_ordH h _ (by simp)
theorem mem_puts {l : List Stp} {L : List Lab} {x : Smp} (h : (L, x) ∈ putsOf l) : ∃ a ∈ l, a.kind = 1 ∧ a.x = x ∧ a.L = L := by
  unfold putsOf at h
  obtain ⟨a, ha, h⟩ := List.mem_flatMap.1 h
  split at h
  · rename_i hp
    rw [List.mem_singleton] at h
    injection h with h1 h2
    exact ⟨a, ha, hp.1, h2.symm, h1.symm⟩
  · cases h
/-- what Get answers: nothing, or only what was put -/
theorem getH_true {puts : List Pt} {h : Hse} (k : HseI puts h) (hm : puts.length ≤ 22) (L : List Lab) : ((getH h L).1 ≠ 0 ∧ (getH h L).2 = []) ∨ ((getH h L).1 = 0 ∧ chkS (getH h L).2 = 0 ∧ (getH h L).2.length ≤ 22 ∧ ∀ x ∈ (getH h L).2, (L, x) ∈ puts) := by
  by_cases hc : chkL L = 0
  · cases hg : getK h (txL L) with
    | none => rw [getH_none hc hg]; exact .inl ⟨(by decide : (13 : Int) ≠ 0), rfl⟩
    | some l =>
      rw [getH_some hc hg]
      have hr := (getK_row k hm hg).1
      rw [labOf_tx hc] at hr
      have hf := hr.few k.ok
      exact .inr ⟨rfl, chkS_upH hr.up (by show l.length ≤ 1000; omega), by show l.length ≤ 22; omega, hr.mem⟩
  · rw [getH_bad hc]
    exact .inl ⟨hc, rfl⟩
end Go.Proofs.YtihjgbhnlejhfaaGreatDoor
namespace Go.Proofs.YtihjgbhnlejhfaaGreatDoor
open Go.RowKit Go.ChangeMaps

set_option maxRecDepth 1000000 in
set_option maxHeartbeats 16000000 in
theorem houseTrue_any (W : World) (A0 : Option Addr) (c0 : Nat) (L : List NodE) (ok0 : ∀ e ∈ L, NodOk W e) (_lc0 : L.length ≤ c0) (_cm0 : c0 ≤ maxLen) (_nil0 : A0 = none → c0 = 0) (has0 : Has W W.heap.size A0 (nodCs L)) (_reach0 : L.length * 40 ≤ 140737488351232)
    (C : Int) (_bC : -9223372036854775808 ≤ C ∧ C ≤ 9223372036854775807) (Wr : Int) (_bW : -9223372036854775808 ≤ Wr ∧ Wr ≤ 9223372036854775807) (R : Int) (_bR : -9223372036854775808 ≤ R ∧ R ≤ 9223372036854775807)
    (A4 : Option Addr) (c4 : Nat) (l : List StpE) (ok4 : ∀ e ∈ l, e.good W) (lc4 : l.length ≤ c4) (cm4 : c4 ≤ maxLen) (_nil4 : A4 = none → c4 = 0) (has4 : Has W W.heap.size A4 (stpCs l)) (_reach4 : l.length * 112 ≤ 140737488351232)
    (A5 : Option Addr) (c5 : Nat) (ask : List Lab) (ok5 : ∀ e ∈ ask, LabOk e) (lc5 : ask.length ≤ c5) (cm5 : c5 ≤ maxLen) (nil5 : A5 = none → c5 = 0) (has5 : Has W W.heap.size A5 (labCs ask)) (_reach5 : ask.length * 32 ≤ 140737488351232) (tS : SgAt W) :
    Calls Tryz.prog 5 #[.slice A0 L.length c0, .int .i64 C, .int .i64 Wr, .int .i64 R, .slice A4 l.length c4, .slice A5 ask.length c5] W (R1 (.bool true) (Below W.heap.size W)) := by
  obtain ⟨n0, hn0⟩ : ∃ n0, L.length = n0 := ⟨_, rfl⟩
  obtain ⟨n, hn⟩ : ∃ n, l.length = n := ⟨_, rfl⟩
  obtain ⟨an, han⟩ : ∃ an, ask.length = an := ⟨_, rfl⟩
  obtain ⟨W0, hW0⟩ : ∃ W0, W.alloc (.cells #[.slice A5 an c5] 24) = W0 := ⟨_, rfl⟩
  obtain ⟨q, hq⟩ : ∃ q, W.heap.size = q := ⟨_, rfl⟩
  have hb0 : Below W.heap.size W W0 := by rw [← hW0]; exact one_allocB _ _
  have kx : Blk W0 q 24 #[.slice A5 an c5] := by rw [← hW0]; exact Blk.newD _ _ _ _ hq
  have hHs := Lib.hid (houses_any W0)
  have hNew := Lib.hid (fun (w1 : World) (hb1 : Below W.heap.size W w1) => hnew_any A0 n0 c0 L hn0 (by omega) C Wr R w1 (has0.next hb1) (fun e he => (ok0 e he).next hb1))
  have Hok4 := Lib.hid (fun e (he : e ∈ l) => (ok4 e he).inn)
  have Hhas4 := Lib.hid has4
  have Hn := Lib.hid hn
  have Hok5 := Lib.hid ok5
  have Han := Lib.hid han
  have Hlc5 := Lib.hid (show an ≤ c5 ∧ an ≤ maxLen from ⟨by omega, by omega⟩)
  have Hnil5 := Lib.hid (show A5 = none → an = 0 ∧ c5 = 0 from fun e => by have h1 := nil5 e; omega)
  have Hhas5 := Lib.hid has5
  have HS := Lib.hid tS
  have HW0 := Lib.hid hW0
  have Hq := Lib.hid hq
  have Hkx := Lib.hid kx
  have Hb0 := Lib.hid hb0
  have hnl : n ≤ maxLen := by omega
  rw [hn0, hn, han]
  clear ok0 has0 ok4 has4 hn0 hn ok5 han lc5 cm5 nil5 has5 tS hb0 lc4 cm4 hW0 hq kx
  go_enter Tryz.func5, Tryz.ntmps5
  go_upto_region 1 with fail
  rw [HW0.out, Hq.out]
  go_wp2_with fail
  refine hHs.out.mono ?_
  rintro e w1 ⟨rfl, hb1⟩
  have hb01 := bnext Hb0.out hb1
  have hN1 := Lib.hid (hNew.out w1 hb01)
  have kx1 := Lib.hid (Hkx.out.next hb1)
  have hb01 := Lib.hid hb01
  clear hb1 hNew hHs
  go_wp2_with fail
  refine hN1.out.mono ?_
  rintro e w2 ⟨v, rfl, hc, hb2⟩
  have hb02 := Lib.hid (bnext hb01.out hb2)
  rcases hc with ⟨he, rfl⟩ | ⟨hE, hb, rfl, hM⟩
  · have f1 : (newE (L.map NodE.x) C Wr R != 0) = true := by rw [bne_iff_ne]; exact he
    obtain ⟨er, her⟩ : ∃ er, newE (L.map NodE.x) C Wr R = er := ⟨_, rfl⟩
    rw [her] at f1 ⊢
    clear he her hb2
    go_wp2_with fail
    go_ret
    exact R1.mk rfl hb02.out
  · by_cases h20 : (20 : Int) < (n : Int)
    · clear hE hM hb2
      go_wp2_with fail
      go_ret
      exact R1.mk rfl hb02.out
    · obtain ⟨hI, hr20, hw20, hwr1, hrd1, hcC, hcW, _⟩ := newH_ok hE
      have hsb : 0 < w1.heap.size := Nat.lt_of_lt_of_le HS.out.1 hb01.out.size
      obtain ⟨h0, hh0⟩ : ∃ h0, newH (L.map NodE.x) C Wr R = h0 := ⟨_, rfl⟩
      rw [hh0] at hM hI hr20 hw20 hwr1 hrd1 hcC hcW
      have Hrun := Lib.hid (fun (j : Nat) (_hj : j ≤ n) => run_sub hI ((l.map StpE.s).take j) (by rw [List.length_take]; omega) (fun a ha => by
        obtain ⟨e, he, rfl⟩ := List.mem_map.1 (List.mem_of_mem_take ha)
        exact (Hok4.out e he).x))
      have Hsame := Lib.hid (fun (j : Nat) => runH_same ((l.map StpE.s).take j) h0)
      have Hplen := Lib.hid (fun (j : Nat) (_hj : j ≤ n) => show (putsOf ((l.map StpE.s).take j)).length ≤ j from Nat.le_trans (putsOf_len _) (by rw [List.length_take]; exact Nat.min_le_left _ _))
      have hM := Lib.hid hM
      have HcC := Lib.hid hcC
      have HcW := Lib.hid hcW
      have hn20 : n ≤ 20 := by omega
      have ho2 := Lib.hid (OutH.of hb2 (Nat.le_refl _))
      clear hE hI hb2 hh0 hcC hcW
      go_wp2_with fail
      go_loopw [59] (fun i wr => ∃ j : Nat, j ≤ n ∧ i = .int .i64 (j : Nat) ∧ Hid (HsM wr w1.heap.size hb (runH h0 ((l.map StpE.s).take j))) ∧ Hid (OutH w1.heap.size w1 wr)) (fun i _ => n + 5 - (intOf i).toNat)
      case atStart => exact ⟨0, by omega, rfl, Lib.hid (by rw [List.take_zero]; exact hM.out), ho2⟩
      case round =>
        obtain ⟨j, hj, rfl, hMj, hoj⟩ := hrel
        have hbj := Lib.hid (hb01.out.trans (hoj.out.below.mono hb01.out.size))
        have hbs : w1.heap.size ≤ wr.heap.size := hoj.out.size
        by_cases hlt : (j : Int) < (n : Int)
        · have hjl : j < l.length := by rw [Hn.out]; omega
          obtain ⟨ad, rfl, g0, g1, g2, g3, g4, g5, g6, g7⟩ := stp_cells (Hhas4.out.next hbj.out) hjl
          have hjs : j < (l.map StpE.s).length := by rw [List.length_map]; exact hjl
          have hat : at_ (l.map StpE.s) j = (at_ l j).s := by rw [at_eq hjs, List.getElem_map, ← at_eq hjl]
          have hnx : runH h0 ((l.map StpE.s).take (j + 1)) = (doneH (runH h0 ((l.map StpE.s).take j)) (at_ l j).s).1 := by rw [take_snoc hjs, runH_snoc, hat]
          have hein := (Hok4.out _ (at_mem hjl)).next hbj.out
          obtain ⟨e, he⟩ : ∃ e, at_ l j = e := ⟨_, rfl⟩
          rw [he] at g0 g1 g2 g3 g4 g5 g6 g7 hnx hein
          obtain ⟨tn, htn⟩ : ∃ tn, e.t.l.length = tn := ⟨_, rfl⟩
          obtain ⟨np, hnp⟩ : ∃ np, e.node.t.l.length = np := ⟨_, rfl⟩
          rw [htn] at g2
          rw [hnp] at g7
          have q0 : (0 : Int) ≤ (j : Int) := by omega
          obtain ⟨W8, hW8⟩ : ∃ W8, wr.alloc (.cells #[.int .i64 e.kind, .int .i64 e.keep, .slice e.t.A tn e.t.c, .int .i64 e.x.t, .int .i64 e.x.v, .string e.nm, .string e.node.nm, .slice e.node.t.A np e.node.t.c] 38) = W8 := ⟨_, rfl⟩
          obtain ⟨q8, hq8⟩ : ∃ q8, wr.heap.size = q8 := ⟨_, rfl⟩
          have hb8 : Below wr.heap.size wr W8 := by rw [← hW8]; exact one_allocB _ _
          have k8 : Blk W8 q8 38 #[.int .i64 e.kind, .int .i64 e.keep, .slice e.t.A tn e.t.c, .int .i64 e.x.t, .int .i64 e.x.v, .string e.nm, .string e.node.nm, .slice e.node.t.A np e.node.t.c] := by rw [← hW8]; exact Blk.newD _ _ _ _ hq8
          have d0 : W8.cell? ⟨q8, 0, none⟩ = some (.int .i64 e.kind) := k8.cell 0
          have d1 : W8.cell? ⟨q8, 1, none⟩ = some (.int .i64 e.keep) := k8.cell 1
          have d2 : W8.cell? ⟨q8, 2, none⟩ = some (.slice e.t.A tn e.t.c) := k8.cell 2
          have d3 : W8.cell? ⟨q8, 3, none⟩ = some (.int .i64 e.x.t) := k8.cell 3
          have d4 : W8.cell? ⟨q8, 4, none⟩ = some (.int .i64 e.x.v) := k8.cell 4
          have d5 : W8.cell? ⟨q8, 5, none⟩ = some (.string e.nm) := k8.cell 5
          have d6 : W8.cell? ⟨q8, 6, none⟩ = some (.string e.node.nm) := k8.cell 6
          have d7 : W8.cell? ⟨q8, 7, none⟩ = some (.slice e.node.t.A np e.node.t.c) := k8.cell 7
          have hpl := Hplen.out j hj
          have hD := Lib.hid (done_any w1.heap.size hb (putsOf ((l.map StpE.s).take j)) (runH h0 ((l.map StpE.s).take j)) (by omega) e tn np htn hnp W8 ⟨hMj.out.next hb8, Hrun.out j hj, by rw [(Hsame.out j).2.2]; exact hr20, by rw [(Hsame.out j).2.1]; exact hw20⟩ (Nat.le_trans hbs hb8.size)
            ((hein.next ((Below.mono hb8 hbj.out.size))).more hb01.out.size) (HS.out.next (bnext hbj.out hb8)) hsb)
          have hoW := Lib.hid (hoj.out.trans (OutH.of hb8 hbs))
          have Hnx := Lib.hid hnx
          clear hjl hjs hat hnx he hpl hein hb8 k8 htn hnp
          go_upto_region 9 with fail
          (try rw [hW8]); (try rw [hq8])
          clear hW8 hq8 g0 g1 g2 g3 g4 g5 g6 g7
          go_wp2_with fail
          refine hD.out.mono ?_
          rintro e9 w9 ⟨rfl, hM9, hO9⟩
          have hM9 := Lib.hid (by rw [← Hnx.out] at hM9; exact hM9)
          have hO9 := Lib.hid (hoW.out.trans hO9)
          clear d0 d1 d2 d3 d4 d5 d6 d7
          go_wp2_with fail
          go_roundw
          case rel => exact ⟨j + 1, by omega, by go_num, hM9, hO9⟩
          case measure => simp [intOf]; omega
        · obtain rfl : n = j := by omega
          have hz := hMj.out
          have hin := Hrun.out n (by omega)
          have hsm := Hsame.out n
          have hpl := Hplen.out n (by omega)
          rw [show (l.map StpE.s).take n = l.map StpE.s by rw [List.take_of_length_le]; rw [List.length_map, Hn.out]; exact Nat.le_refl _] at hz hin hsm hpl
          obtain ⟨hr, hhr⟩ : ∃ hr, runH h0 (l.map StpE.s) = hr := ⟨_, rfl⟩
          rw [hhr] at hz hin hsm
          obtain ⟨mb, NA, nc, NL, es, clock, kvs, ls, hh⟩ := hz
          have hm22 : (putsOf (l.map StpE.s)).length ≤ 22 := by omega
          have hrr : hr.read ≤ 20 := by rw [hsm.2.2]; exact hr20
          have hT := getH_true hin hm22 ask
          have hT2 : ∀ x, (ask, x) ∈ putsOf (l.map StpE.s) → ∃ e ∈ l, IsT e x ask := fun x hx => by
            obtain ⟨a, ha, h1, h2, h3⟩ := mem_puts hx
            obtain ⟨e, he, rfl⟩ := List.mem_map.1 ha
            exact ⟨e, he, h1, h2, h3⟩
          have hG1 := Lib.hid (hGet_any w1.heap.size hb mb NA nc NL es clock kvs ls _ hr hin hm22 hrr A5 an c5 ask Han.out Hlc5.out.2 Hok5.out wr (Hhas5.out.next hbj.out) hh (HS.out.next hbj.out))
          obtain ⟨⟨f, la⟩, hgr⟩ : ∃ r, getH hr ask = r := ⟨_, rfl⟩
          rw [hgr] at hG1 hT
          have kx5 := Lib.hid (kx1.out.next hoj.out.below)
          have y0 : wr.cell? ⟨q, 0, none⟩ = some (.slice A5 an c5) := kx5.out.cell 0
          have HT2 := Lib.hid hT2
          have hT := Lib.hid hT
          clear hin hsm hpl hhr hh hgr hT2
          go_wp2_with fail
          refine hG1.out.mono ?_
          rintro e9 w3 ⟨v, rfl, A6, n6, c6, rfl, hl6, ho6, hb3⟩
          have hT1 := hT.out
          rcases hT1 with ⟨hf, hla⟩ | ⟨hf, hchk, hl22, hmem⟩
          · have hla : la = [] := hla
            subst hla
            have f1 : (f != 0) = true := by rw [bne_iff_ne]; exact hf
            obtain rfl : n6 = 0 := hl6.symm
            have hb9 := Lib.hid (bnext hbj.out hb3)
            clear ho6 hf hb3 hT
            go_wp2_with fail
            go_ret
            exact R1.mk rfl hb9.out
          · have hf : f = 0 := hf
            subst hf
            have hl22 : la.length ≤ 22 := hl22
            rw [hl6] at hl22
            have Hl6 := Lib.hid hl6
            have Ho6 := Lib.hid ho6
            have Hmem := Lib.hid (show ∀ x ∈ la, (ask, x) ∈ putsOf (l.map StpE.s) from hmem)
            have Hchk := Lib.hid (show chkS la = 0 from hchk)
            have Hb3 := Lib.hid hb3
            clear hT hchk hmem hl6 ho6 hb3 y0
            go_wp2_with fail
            go_loopw [80] (fun i wr => ∃ k : Nat, k ≤ n6 ∧ i = .int .i64 (k : Nat) ∧ Hid (Below w3.heap.size w3 wr)) (fun i _ => n6 + 5 - (intOf i).toNat)
            case atStart => exact ⟨0, by omega, rfl, Lib.hid (Below.refl _ _)⟩
            case round =>
              obtain ⟨k, hk, rfl, hb9⟩ := hrel
              by_cases hlt6 : (k : Int) < (n6 : Int)
              · have hkl : k < la.length := by rw [Hl6.out]; omega
                have hH6 := (Has.of_own Ho6.out).next hb9.out
                obtain ⟨a6, had, _, g0⟩ := hH6.at (smpCs_t hkl)
                obtain ⟨a7, e7, _, g1⟩ := hH6.at (smpCs_v hkl)
                rw [had] at e7
                injection e7 with e7
                subst e7
                subst had
                have g1 := cell_off g1 (by omega : 0 < 1)
                have hx0 := Hmem.out _ (at_mem hkl)
                obtain ⟨x, hx⟩ : ∃ x, at_ la k = x := ⟨_, rfl⟩
                rw [hx] at g0 g1 hx0
                have q0 : (0 : Int) ≤ (k : Int) := by omega
                obtain ⟨W9, hW9⟩ : ∃ W9, wr.alloc (.cells #[.int .i64 x.t, .int .i64 x.v] 26) = W9 := ⟨_, rfl⟩
                obtain ⟨q9, hq9⟩ : ∃ q9, wr.heap.size = q9 := ⟨_, rfl⟩
                have hbA : Below wr.heap.size wr W9 := by rw [← hW9]; exact one_allocB _ _
                have k9 : Blk W9 q9 26 #[.int .i64 x.t, .int .i64 x.v] := by rw [← hW9]; exact Blk.newD _ _ _ _ hq9
                have hbr9 := bnext Hb3.out (bnext hb9.out hbA)
                have hb09 := bnext hbj.out hbr9
                have hC := hasT_any W.heap.size l n Hn.out A4 c4 hnl q9 x q A5 c5 an ask Han.out Hlc5.out.2 W9 (fun e he => (Hok4.out e he).next hb09) hb09.size (Hhas4.out.next hb09) k9 (kx5.out.next hbr9) (Hhas5.out.next hb09) (HT2.out x hx0)
                unfold trueF at hC
                have hC := Lib.hid hC
                have hb39 := Lib.hid (bnext hb9.out hbA)
                clear hkl hH6 hx0 hx k9 hbA hbr9 hb09
                go_upto_region 17 with fail
                (try rw [hW9]); (try rw [hq9])
                clear hW9 hq9 g0 g1
                go_wp2_with fail
                refine hC.out.mono ?_
                rintro e9 w5 ⟨rfl, hb5⟩
                have hb35 := Lib.hid (bnext hb39.out hb5)
                clear hb5 hC
                go_wp2_with fail
                go_roundw
                case rel => exact ⟨k + 1, by omega, by go_num, hb35⟩
                case measure => simp [intOf]; omega
              · obtain rfl : n6 = k := by omega
                have hC := scheck_any A6 c6 la (by rw [Hl6.out]; unfold maxLen; omega) wr ((Has.of_own Ho6.out).next hb9.out)
                rw [Hl6.out, Hchk.out] at hC
                have hC := Lib.hid hC
                go_wp2_with fail
                refine hC.out.mono ?_
                rintro e9 w5 ⟨rfl, nd, rfl⟩
                go_wp2_with fail
                go_ret
                exact R1.mk rfl (bnext hbj.out (bnext Hb3.out (below_drewN hb9.out nd)))
end Go.Proofs.YtihjgbhnlejhfaaGreatDoor
