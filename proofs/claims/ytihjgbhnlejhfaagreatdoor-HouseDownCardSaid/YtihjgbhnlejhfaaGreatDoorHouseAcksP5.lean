/- Texts of the proof of HouseAcks, joined (by merge.py). Conditions: each theorem's own hypotheses. -/
import Derived.Test.YtihjgbhnlejhfaaGreatDoorHouseAcksP3
import Derived.WideKeyEntry
import Derived.Maps.Keyed
namespace Go.Proofs.YtihjgbhnlejhfaaGreatDoor
open Go.RowKit Go.ChangeMaps Go.MapKept
open Go.WideMaps (KeyLaw)

/-- the entries, as pairs, in the order in which they were laid -/
structure MpS (P : Program) (k : TypeId) (es : Array MapEntry) (clock : Nat) (kvs : List (Value × Value)) : Prop where
  pairs : es.toList.map (fun e => (e.key, e.val)) = kvs
  stamped : Stamped es clock
  keys : ∀ e ∈ es.toList, ∃ l, keyOf P k e.key = some l
/-- a value laid at a key -/
def PutV (kvs : List (Value × Value)) (key val : Value) (kvs' : List (Value × Value)) : Prop :=
  (∃ pre v post, kvs = pre ++ (key, v) :: post ∧ kvs' = pre ++ (key, val) :: post) ∨ ((∀ p ∈ kvs, p.1 ≠ key) ∧ kvs' = kvs ++ [(key, val)])
theorem MpS.empty (P : Program) (k : TypeId) (clock : Nat) : MpS P k #[] clock [] := ⟨rfl, ⟨by simp, by simp, by simp⟩, by simp⟩
section
variable {P : Program} {w : World} {t k e : TypeId} {b : Nat} {es : Array MapEntry} {clock : Nat} {kvs : List (Value × Value)}
theorem MpS.fit (h : MpS P k es clock kvs) (hs : es.size ≤ maxLen) : WideElems.Fit (H := Unit) P k (fun _ => some (.nil, [])) es clock := by
  refine ⟨hs, h.stamped, fun x hx => ?_⟩
  obtain ⟨l, hl⟩ := h.keys x hx
  exact ⟨(l, .nil), by unfold WideElems.rd; rw [hl]; rfl⟩
theorem split_at {α : Type} : ∀ (l : List α) (j : Nat) (a : α), l[j]? = some a → l = l.take j ++ a :: l.drop (j + 1)
  | [], _, _, h => by simp at h
  | x :: l, 0, a, h => by simp at h; simp [h]
  | x :: l, j + 1, a, h => by
    have := split_at l j a (by simpa using h)
    rw [List.take_succ_cons, List.drop_succ_cons, List.cons_append, ← this]
/-- 'm[key] = val' -/
theorem updF (K : Go.Maps.Keyed P k) (ht : P.underlying t = some (.map k e)) (hb : w.heap[b]? = some (.map es clock)) (S : MpS P k es clock kvs) {key : Value} {kl : Lit} (hkey : keyOf P k key = some kl) (val : Value) :
    ∃ es' clock' kvs', (Instr.mapUpdate t (.map (some b)) key val).run P w = .ok () (setBlock w b (.map es' clock')) ∧ MpS P k es' clock' kvs' ∧ PutV kvs key val kvs' := by
  obtain ⟨s1, s2, s3⟩ := S.stamped
  rcases K.find w hkey es.toList S.keys with ⟨h1, h2⟩ | ⟨j, e0, h1, h2, h3⟩
  · refine ⟨es.push ⟨key, val, clock⟩, clock + 1, kvs ++ [(key, val)], ?_, ⟨?_, ⟨?_, ?_, ?_⟩, ?_⟩, .inr ⟨?_, rfl⟩⟩
    · simp [Instr.mapUpdate, run_underlying ht, MapKept.run_getObj_map hb, K.check w false hkey, h1, MapKept.run_setObj_map _ hb, Result.andThen, setBlock]
    · rw [Array.toList_push, List.map_append, S.pairs]; rfl
    · intro x hx
      rw [Array.toList_push] at hx
      rcases List.mem_append.1 hx with g | g
      · have := s1 x g; omega
      · simp at g; subst g; exact Nat.lt_succ_self _
    · rw [Array.toList_push, List.map_append]
      refine List.nodup_append.2 ⟨s2, by simp, fun a ha c hc e1 => ?_⟩
      simp at hc
      obtain ⟨x, hx, rfl⟩ := List.mem_map.1 ha
      have := s1 x hx
      omega
    · rw [Array.toList_push, List.map_append]
      refine List.nodup_append.2 ⟨s3, by simp, fun a ha c hc e1 => ?_⟩
      simp at hc
      obtain ⟨x, hx, rfl⟩ := List.mem_map.1 ha
      exact h2 x hx (e1.trans hc)
    · intro x hx
      rw [Array.toList_push] at hx
      rcases List.mem_append.1 hx with g | g
      · exact S.keys x g
      · simp at g; subst g; exact ⟨kl, hkey⟩
    · intro p hp
      rw [← S.pairs] at hp
      obtain ⟨x, hx, rfl⟩ := List.mem_map.1 hp
      exact h2 x hx
  · have hsp := split_at _ _ _ h2
    have hj : es[j]? = some e0 := by simpa using h2
    have hmod : (es.modify j (fun e' => { e' with key := key, val := val })).toList = es.toList.take j ++ ⟨key, val, e0.born⟩ :: es.toList.drop (j + 1) := by
      rw [Array.toList_modify]
      have hjl : j < es.toList.length := (List.getElem?_eq_some_iff.1 h2).1
      rw [List.modify_eq_take_cons_drop hjl]
      have : es.toList[j] = e0 := (List.getElem?_eq_some_iff.1 h2).2
      rw [this]
    have hborn : (es.modify j (fun e' => { e' with key := key, val := val })).toList.map (·.born) = es.toList.map (·.born) := by
      rw [hmod]
      conv => rhs; rw [hsp]
      simp
    have hkeyl : (es.modify j (fun e' => { e' with key := key, val := val })).toList.map (·.key) = es.toList.map (·.key) := by
      rw [hmod]
      conv => rhs; rw [hsp]
      simp [h3]
    refine ⟨es.modify j (fun e' => { e' with key := key, val := val }), clock, _, ?_, ⟨rfl, ⟨?_, ?_, ?_⟩, ?_⟩, .inl ⟨(es.toList.take j).map (fun e => (e.key, e.val)), e0.val, (es.toList.drop (j + 1)).map (fun e => (e.key, e.val)), ?_, ?_⟩⟩
    · simp [Instr.mapUpdate, run_underlying ht, MapKept.run_getObj_map hb, K.check w false hkey, h1, hj, h3, K.stays w hkey, MapKept.run_setObj_map _ hb, Result.andThen, setBlock]
    · intro x hx
      have : x.born ∈ (es.modify j (fun e' => { e' with key := key, val := val })).toList.map (·.born) := List.mem_map_of_mem hx
      rw [hborn] at this
      obtain ⟨y, hy, e1⟩ := List.mem_map.1 this
      rw [← e1]; exact s1 y hy
    · rw [hborn]; exact s2
    · rw [hkeyl]; exact s3
    · intro x hx
      have : x.key ∈ (es.modify j (fun e' => { e' with key := key, val := val })).toList.map (·.key) := List.mem_map_of_mem hx
      rw [hkeyl] at this
      obtain ⟨y, hy, e1⟩ := List.mem_map.1 this
      rw [← e1]; exact S.keys y hy
    · rw [← S.pairs]
      conv => lhs; rw [hsp]
      simp [h3]
    · rw [hmod]; simp
theorem upd_shape (K : KeyLaw P k) (ht : P.underlying t = some (.map k e)) (hb : w.heap[b]? = some (.map es clock)) (S : MpS P k es clock kvs) {key : Value} {kl : Lit} (hkey : keyOf P k key = some kl) (val : Value) :
    ∃ es' clock' kvs', (Instr.mapUpdate t (.map (some b)) key val).run P w = .ok () (setBlock w b (.map es' clock')) ∧ MpS P k es' clock' kvs' ∧ PutV kvs key val kvs' := updF (Go.Maps.Keyed.of_law K) ht hb S hkey val
/-- 'm[key] = f(m[key])': the entry is looked for once, and stored behind what lies between -/
theorem entry_step (K : KeyLaw P k) (ht : P.underlying t = some (.map k e)) {z : Value} (hz : ∀ u : World, (zeroValue e).run P u = .ok z u) (hb : w.heap[b]? = some (.map es clock)) (S : MpS P k es clock kvs) (hs : es.size ≤ maxLen) {key : Value} {kl : Lit} (hkey : keyOf P k key = some kl) :
    ∃ (v0 : Value) (st : Nat) (es1 : Array MapEntry) (clock1 : Nat), (Instr.mapEntry t (.map (some b)) key).run P w = .ok (.tuple #[v0, goInt st]) (setBlock w b (.map es1 clock1)) ∧
      ((key, v0) ∈ kvs ∨ ((∀ p ∈ kvs, p.1 ≠ key) ∧ v0 = z)) ∧
      ∀ (w2 : World) (val : Value), w2.heap[b]? = some (.map es1 clock1) → ∃ es' clock' kvs', (Instr.entryStore t (.map (some b)) (goInt st) val).run P w2 = .ok () (setBlock w2 b (.map es' clock')) ∧ MpS P k es' clock' kvs' ∧ PutV kvs key val kvs' := by
  obtain ⟨v0, st, es1, clock1, h1, h2, h3⟩ := WideElems.entry_then_store K ht hz hb (S.fit hs) hkey
  refine ⟨v0, st, es1, clock1, h1, ?_, fun w2 val hw2 => ?_⟩
  · rcases h2 with ⟨e0, g1, g2, g3⟩ | ⟨g1, g2⟩
    · refine .inl ?_
      rw [← S.pairs, g3, ← g2]
      exact List.mem_map.2 ⟨e0, g1, rfl⟩
    · refine .inr ⟨fun p hp => ?_, g2⟩
      rw [← S.pairs] at hp
      obtain ⟨x, hx, rfl⟩ := List.mem_map.1 hp
      exact g1 x hx
  · obtain ⟨es', clock', r1, r2⟩ := h3 w2 val hw2
    obtain ⟨es'', clock'', kvs', u1, u2, u3⟩ := upd_shape K ht hb S hkey val
    rw [u1] at r2
    have hw : setBlock w b (.map es'' clock'') = setBlock w b (.map es' clock') := by
      injection r2
    have hlt : b < w.heap.size := (Array.getElem?_eq_some_iff.1 hb).1
    have hg : ∀ o, (setBlock w b o).heap[b]? = some o := fun o => by
      unfold setBlock
      simp [hlt]
    have hh := congrArg (fun W : World => W.heap[b]?) hw
    simp only [hg] at hh
    injection hh with hh
    injection hh with e1 e2
    subst e1 e2
    exact ⟨es'', clock'', kvs', r1, u2, u3⟩
/-- 'm[key]', 'v, is := m[key]' -/
theorem MpS.lookF (K : Go.Maps.Keyed P k) (ht : P.underlying t = some (.map k e)) {z : Value} (hz : ∀ u : World, (zeroValue e).run P u = .ok z u) (hb : w.heap[b]? = some (.map es clock)) (S : MpS P k es clock kvs) {key : Value} {kl : Lit} (hkey : keyOf P k key = some kl) (c : Bool) :
    ((∀ p ∈ kvs, p.1 ≠ key) ∧ (Instr.lookup t (.map (some b)) key c).run P w = .ok (if c then .tuple #[z, .bool false] else z) w) ∨
    (∃ v, (key, v) ∈ kvs ∧ (Instr.lookup t (.map (some b)) key c).run P w = .ok (if c then .tuple #[v, .bool true] else v) w) := by
  rcases K.find w hkey es.toList S.keys with ⟨h1, h2⟩ | ⟨j, e0, h1, h2, h3⟩
  · refine .inl ⟨fun p hp => ?_, by simp [Instr.lookup, run_underlying ht, MapKept.run_getObj_map hb, K.check w _ hkey, h1, hz, Result.andThen]⟩
    rw [← S.pairs] at hp
    obtain ⟨x, hx, rfl⟩ := List.mem_map.1 hp
    exact h2 x hx
  · have hm0 : e0 ∈ es.toList := List.mem_of_getElem? h2
    have hj : es[j]? = some e0 := by simpa using h2
    refine .inr ⟨e0.val, ?_, by simp [Instr.lookup, run_underlying ht, MapKept.run_getObj_map hb, K.check w _ hkey, h1, Result.andThen]⟩
    rw [← S.pairs, ← h3]
    exact List.mem_map.2 ⟨e0, hm0, rfl⟩
theorem MpS.look (K : KeyLaw P k) (ht : P.underlying t = some (.map k e)) {z : Value} (hz : ∀ u : World, (zeroValue e).run P u = .ok z u) (hb : w.heap[b]? = some (.map es clock)) (S : MpS P k es clock kvs) {key : Value} {kl : Lit} (hkey : keyOf P k key = some kl) (c : Bool) :
    ((∀ p ∈ kvs, p.1 ≠ key) ∧ (Instr.lookup t (.map (some b)) key c).run P w = .ok (if c then .tuple #[z, .bool false] else z) w) ∨
    (∃ v, (key, v) ∈ kvs ∧ (Instr.lookup t (.map (some b)) key c).run P w = .ok (if c then .tuple #[v, .bool true] else v) w) := MpS.lookF (Go.Maps.Keyed.of_law K) ht hz hb S hkey c
end
end Go.Proofs.YtihjgbhnlejhfaaGreatDoor
