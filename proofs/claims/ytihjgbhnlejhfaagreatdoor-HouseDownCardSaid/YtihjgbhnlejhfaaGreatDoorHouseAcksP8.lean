/- Texts of the proof of HouseAcks, joined (by merge.py). Conditions: each theorem's own hypotheses. -/
import Derived.Test.YtihjgbhnlejhfaaGreatDoorHouseAcksP3
import Derived.Laws.CopyRow
import Derived.Laws.CopyOwn
import Derived.Lib.AppendZeros
import Derived.Deep.AppendSrc
import Derived.Lib.Overlaps
namespace Go.Proofs.YtihjgbhnlejhfaaGreatDoor
open Go.RowKit

theorem wpList_spreadM {P : Program} {w : World} {ops : Array Oper} {rest : List Oper} {o : Oper} {a : Act} {Q : Exit → Act → World → Prop} (hgd : Region.wanted o (yielded ops a.tmps) = true) (s x : Operand) (t : TypeId)
    (ho : o.op = .call { callee := .builtin .append, args := #[s, x], argTypes := #[t, t] })
    {base size bytes : Nat} {e : TypeId} (E : Elem P t e size bytes) {v : Value} (hs : a.eval s = v) {n : Nat} {xs : List Value} (hown : w.ownsRow base e size v n xs)
    {A : Option Addr} {m c B : Nat} (hx : a.eval x = .slice A m c) {news : List Value} (hr : Has w B A news)
    (h : ∀ A' c' w', w'.ownsRow base e size (.slice A' (n + m) c') (n + m) (xs ++ news) → w.grownBy w' v.ownBlock → Below base w w' → ((Value.slice A' (n + m) c').ownBlock = v.ownBlock ∨ (Value.slice A' (n + m) c').ownBlock = some w.heap.size) → wpList P ops Q rest (a.put o.dst (.slice A' (n + m) c')) w')
    (hl : news.length = m * size) (h1 : ∀ u ∈ news, u.oneCell' = true) (hmax : (n + m) * bytes ≤ 140737488355328) (h63 : n + m ≤ maxLen) (hbase : base ≤ w.heap.size) : wpList P ops Q (o :: rest) a w := by
  refine BigFrame.wpList_want hgd fun K hK => ?_
  obtain ⟨v', w', hrun, h2, h3, h4⟩ := run_append_spread (ty := o.type) E hown (c := c) hr hl h1 hmax h63 hbase
  obtain ⟨A', c', rfl, _⟩ := own_form h2
  unfold Oper.wp execOp
  simp only [ho, resolve, invoke, builtin, Sem.run_bind, Sem.run_pure, Result.andThen_ok, List.map_toArray, List.map_cons, List.map_nil, hs, hx, hrun]
  exact hK _ _ (h A' c' w' h2 h3 (grown_below hown h3 hbase) h4)
theorem own_blockM {w : World} {base size n : Nat} {e : TypeId} {v : Value} {xs : List Value} (h : w.ownsRow base e size v n xs) : ∀ k, v.ownBlock = some k → base ≤ k ∧ k < w.heap.size := by
  intro k hk
  rcases h.2 with ⟨rfl, _⟩ | ⟨q, cap, cur, rfl, hb, hgg, _⟩
  · cases hk
  · injection hk with hk
    have : q = k := hk
    subst this
    exact ⟨hb, (Array.getElem?_eq_some_iff.1 hgg).1⟩

theorem size_setRow (w : World) (g : Nat) (cs : Array Value) : (w.setRow g cs).heap.size = w.heap.size := by simp [World.setRow]
/-- all is read before anything is written -/
theorem run_copy_rowK {P : Program} (w : World) (dT sT ty elem : TypeId) (K g o dLen dCap : Nat) (a : Addr) (sLen sCap : Nat) (cur : Array Value) (t : TypeId) (cs : List Value)
    (hu : P.underlying dT = some (.slice elem)) (hs : (P.info? elem).map (·.size) = some K)
    (hg : w.heap[g]? = some (.cells cur t (0, 0))) (hn : cs.length = Nat.min sLen dLen * K)
    (hsrc : ∀ j v, cs[j]? = some v → w.cell? (a.add j) = some v) (hfit : o + cs.length ≤ cur.size) (h1 : ∀ v ∈ cs, v.oneCell' = true) :
    (Builtin.copy_ #[dT, sT] ty #[.slice (some ⟨g, o, none⟩) dLen dCap, .slice (some a) sLen sCap]).run P w =
      .ok (goInt (Nat.min sLen dLen)) (w.setRow g (cur.toList.take o ++ cs ++ cur.toList.drop (o + cs.length)).toArray) := by
  have hl := run_loadCells_list (P := P) w a cs hsrc
  have hst := run_storeCells_at P g o t cs 0 cur w hg (by simpa using hfit) h1
  cases hq : P.info? elem with
  | none => simp [hq] at hs
  | some i =>
    have hi : i.size = K := by simpa [hq] using hs
    simp [Builtin.copy_, run_underlying hu, Builtin.lenOf, Builtin.firstCells, sizeOf, typeInfo, hq, hi, ← hn, hl, hst]
theorem wpList_copy_runK {P : Program} (w : World) {ops : Array Oper} {rest : List Oper} {o : Oper} {a : Act} {Q : Exit → Act → World → Prop} (hgd : o.guard = none) (d s : Operand) (t t' : TypeId)
    (ho : o.op = .call { callee := .builtin .copy, args := #[d, s], argTypes := #[t, t'] }) (v u : Value) (hd : a.eval d = v) (hs : a.eval s = u) {v' : Value} {w' : World}
    (hr : (Builtin.copy_ #[t, t'] o.type #[v, u]).run P w = .ok v' w') (h : wpList P ops Q rest (a.put o.dst v') w') : wpList P ops Q (o :: rest) a w :=
  wpList_plain hgd fun _ hK => by
    unfold Oper.wp execOp
    simp only [ho, resolve, invoke, builtin, Sem.run_bind, Sem.run_pure, Result.andThen_ok, List.map_toArray, List.map_cons, List.map_nil, hd, hs, hr]
    exact hK _ _ h
theorem step_copy_runK {P : Program} {ops : Array Oper} {o : Oper} {a : Act} {w : World} {K : Act → World → Prop} {Q : Exit → Act → World → Prop} {E : Prop}
    (hg : o.guard = none) (d x : Operand) (dT sT : TypeId) (hop : o.op = Op.call { callee := Callee.builtin Builtin.copy, args := #[d, x], argTypes := #[dT, sT] })
    (v u : Value) (hd : a.eval d = v) (hx : a.eval x = u) {v' : Value} {w' : World} (hr : (Builtin.copy_ #[dT, sT] o.type #[v, u]).run P w = .ok v' w') (hK : K (a.put o.dst v') w') :
    if Region.wanted o (yielded ops a.tmps) = true then Oper.wp P o a w K Q else E := by
  have hw : Region.wanted o (yielded ops a.tmps) = true := by simp [Region.wanted, hg]
  rw [if_pos hw]
  unfold Oper.wp
  simp [execOp, hop, resolve, invoke, builtin, hd, hx, hr, Result.andThen]
  exact hK
/-- 'copy' upwards by k cells, then the new ones in between -/
theorem ins_shift {α : Type} {C cs vs : List α} {I K N : Nat} (hN : C.take N = cs) (hI : I ≤ N) (hC : N + K ≤ C.length) (hv : vs.length = K) :
    (((C.take (I + K) ++ cs.drop I ++ C.drop (I + K + (cs.drop I).length)).take I ++ vs ++ (C.take (I + K) ++ cs.drop I ++ C.drop (I + K + (cs.drop I).length)).drop (I + vs.length)).take (N + K)) = cs.take I ++ (vs ++ cs.drop I) ∧
    ((C.take (I + K) ++ cs.drop I ++ C.drop (I + K + (cs.drop I).length)).take I ++ vs ++ (C.take (I + K) ++ cs.drop I ++ C.drop (I + K + (cs.drop I).length)).drop (I + vs.length)).length = C.length := by
  have hcl : cs.length = N := by rw [← hN, List.length_take]; omega
  have hdl : (cs.drop I).length = N - I := by rw [List.length_drop, hcl]
  have e0 : (C.take (I + K)).length = I + K := by rw [List.length_take]; omega
  have e1 : (C.take (I + K) ++ cs.drop I ++ C.drop (I + K + (cs.drop I).length)).take I = cs.take I := by
    rw [List.append_assoc, List.take_append_of_le_length (by omega), List.take_take, Nat.min_eq_left (by omega), ← hN, List.take_take, Nat.min_eq_left hI]
  have e2 : (C.take (I + K) ++ cs.drop I ++ C.drop (I + K + (cs.drop I).length)).drop (I + vs.length) = cs.drop I ++ C.drop (I + K + (cs.drop I).length) := by
    rw [hv, List.append_assoc, List.drop_append_of_le_length (by omega), List.drop_of_length_le (by omega), List.nil_append]
  rw [e1, e2]
  have e3 : (cs.take I).length = I := by rw [List.length_take]; omega
  refine ⟨?_, ?_⟩
  · rw [show cs.take I ++ vs ++ (cs.drop I ++ C.drop (I + K + (cs.drop I).length)) = (cs.take I ++ (vs ++ cs.drop I)) ++ C.drop (I + K + (cs.drop I).length) from by simp]
    rw [List.take_append_of_le_length (by simp only [List.length_append]; omega), List.take_of_length_le (by simp only [List.length_append]; omega)]
  · simp only [List.length_append, List.length_drop]
    omega
/-- into a new row: the new ones, then those behind -/
theorem ins_grow {α : Type} {R cs vs : List α} {I K N : Nat} (hcl : cs.length = N) (hI : I ≤ N) (hR : R.take I = cs.take I) (hRl : N + K ≤ R.length) (hv : vs.length = K) :
    (((R.take I ++ vs ++ R.drop (I + vs.length)).take (I + K) ++ cs.drop I ++ (R.take I ++ vs ++ R.drop (I + vs.length)).drop (I + K + (cs.drop I).length)).take (N + K)) = cs.take I ++ (vs ++ cs.drop I) ∧
    ((R.take I ++ vs ++ R.drop (I + vs.length)).take (I + K) ++ cs.drop I ++ (R.take I ++ vs ++ R.drop (I + vs.length)).drop (I + K + (cs.drop I).length)).length = R.length := by
  have hdl : (cs.drop I).length = N - I := by rw [List.length_drop, hcl]
  have e3 : (cs.take I).length = I := by rw [List.length_take]; omega
  rw [hR]
  have e1 : (cs.take I ++ vs ++ R.drop (I + vs.length)).take (I + K) = cs.take I ++ vs := by
    rw [List.take_append_of_le_length (by simp only [List.length_append]; omega), List.take_of_length_le (by simp only [List.length_append]; omega)]
  have e4 : (cs.take I ++ vs ++ R.drop (I + vs.length)).length = R.length := by simp only [List.length_append, List.length_drop]; omega
  rw [e1]
  refine ⟨?_, ?_⟩
  · rw [List.take_append_of_le_length (by simp only [List.length_append]; omega), List.take_of_length_le (by simp only [List.length_append]; omega), List.append_assoc]
  · simp only [List.length_append, List.length_drop] at e4 ⊢
    omega
end Go.Proofs.YtihjgbhnlejhfaaGreatDoor
