/- What slices.Delete of one node makes of a row of the call's own. Conditions: none beyond each theorem's own hypotheses. -/
import Derived.Test.YtmbpgenjjgepiaaRgOwn
import Derived.OwnWalk
import Derived.Lib.SliceRun
namespace Go.Proofs.Ytmbpgenjjgepiaa
open Go.RowKit

theorem step_fits {P : Program} {w : World} {ops : Array Oper} {o : Oper} {a : Act} {K : Act → World → Prop} {Q : Exit → Act → World → Prop} {F : Prop} (hgd : o.guard = none) (s x : Operand) (t : TypeId)
    (ho : o.op = .call { callee := .builtin .append, args := #[s, x], argTypes := #[t, t] })
    {base size bytes : Nat} {e : TypeId} (E : Elem P t e size bytes) {g k cap : Nat} {xs : List Value} (hs : a.eval s = .slice (some ⟨g, 0, none⟩) k cap) (hown : w.ownsRow base e size (.slice (some ⟨g, 0, none⟩) k cap) k xs)
    {ad : Addr} {m c : Nat} (hx : a.eval x = .slice (some ad) m c) {news : List Value} (hl : news.length = m * size) (hc : ∀ j u, news[j]? = some u → w.cell? (ad.add j) = some u) (h1 : ∀ u ∈ news, u.oneCell' = true) (hfit : k + m ≤ cap)
    (h : ∀ w', w'.ownsRow base e size (.slice (some ⟨g, 0, none⟩) (k + m) cap) (k + m) (xs ++ news) → w.grownBy w' (some g) → K (a.put o.dst (.slice (some ⟨g, 0, none⟩) (k + m) cap)) w') :
    if Region.wanted o (yielded ops a.tmps) = true then Oper.wp P o a w K Q else F := by
  have hw : Region.wanted o (yielded ops a.tmps) = true := by simp [Region.wanted, hgd]
  rw [if_pos hw]
  obtain ⟨ht, ⟨i, z, hi, _, hsize, _, _⟩, _⟩ := E
  obtain ⟨w', hrun, h2, h3⟩ := run_append_fits (P := P) w base t o.type e i size ht hi hsize g k cap xs hown ad m c news hl hc h1 hfit
  unfold Oper.wp
  simp [execOp, ho, resolve, invoke, builtin, hs, hx, hrun, Result.andThen]
  exact h w' h2 h3
/-- the front of an own row is one -/
theorem own_front {w : World} {base size n c g k : Nat} {e : TypeId} {xs : List Value} (h : w.ownsRow base e size (.slice (some ⟨g, 0, none⟩) n c) n xs) (hk : k ≤ n) : w.ownsRow base e size (.slice (some ⟨g, 0, none⟩) k c) k (xs.take (k * size)) := by
  obtain ⟨h0, h⟩ := h
  rcases h with ⟨h, _⟩ | ⟨g', cap, cur, ev, hb, hg, h1, h2, h3, h4⟩
  · cases h
  · injection ev with e1 _ e3
    injection e1 with e1
    injection e1 with e1 _ _
    subst e1 e3
    have hks : k * size ≤ n * size := Nat.mul_le_mul_right _ hk
    refine ⟨by rw [List.length_take]; omega, .inr ⟨g, c, cur, rfl, hb, hg, by omega, h2, h3, ?_⟩⟩
    rw [← h4, List.take_take, Nat.min_eq_left hks]
/-- a cell behind the row's end -/
theorem own_behind {w : World} {base size n c g k : Nat} {e : TypeId} {xs : List Value} (h : w.ownsRow base e size (.slice (some ⟨g, 0, none⟩) n c) n xs) (hk : n * size ≤ k) (u : Value) : (w.setCell ⟨g, k, none⟩ u).ownsRow base e size (.slice (some ⟨g, 0, none⟩) n c) n xs := by
  obtain ⟨h0, h⟩ := h
  rcases h with ⟨h, _⟩ | ⟨g', cap, cur, ev, hb, hg, h1, h2, h3, h4⟩
  · cases h
  · injection ev with e1 _ e3
    injection e1 with e1
    injection e1 with e1 _ _
    subst e1 e3
    refine ⟨h0, .inr ⟨g, c, cur.setIfInBounds k u, rfl, hb, ?_, h1, h2, by simpa using h3, ?_⟩⟩
    · have hb2 : Blk w g e cur := hg
      exact hb2.set k u
    · rw [Array.toList_setIfInBounds, List.take_set_of_le (by omega)]
      exact h4
/-- the cells behind the row's end are there, and not frozen -/
theorem own_room {w : World} {base size n c g k : Nat} {e : TypeId} {xs : List Value} (h : w.ownsRow base e size (.slice (some ⟨g, 0, none⟩) n c) n xs) (hk : k < c * size) : (∃ u, w.cell? ⟨g, k, none⟩ = some u) ∧ w.frozen? ⟨g, k, none⟩ = false := by
  obtain ⟨_, h⟩ := h
  rcases h with ⟨h, _⟩ | ⟨g', cap, cur, ev, hb, hg, h1, h2, h3, h4⟩
  · cases h
  · injection ev with e1 _ e3
    injection e1 with e1
    injection e1 with e1 _ _
    subst e1 e3
    have hb2 : Blk w g e cur := hg
    exact ⟨⟨cur[k]'(by omega), by rw [hb2.cell k]; simp⟩, hb2.frozen k⟩
theorem nodCs_take (L : List NodE) (k : Nat) : (nodCs L).take (k * 2) = nodCs (L.take k) := by
  induction L generalizing k with
  | nil => simp [nodCs]
  | cons x L ih =>
    cases k with
    | zero => simp [nodCs]
    | succ k =>
      rw [List.take_succ_cons, show nodCs (x :: L) = nodC x ++ nodCs L from rfl, show nodCs (x :: L.take k) = nodC x ++ nodCs (L.take k) from rfl, ← ih, List.take_append]
      have : (nodC x).length = 2 := rfl
      rw [this, show (k + 1) * 2 - 2 = k * 2 by omega, List.take_of_length_le (by rw [this]; omega)]
theorem nodCs_drop (L : List NodE) (k : Nat) : (nodCs L).drop (k * 2) = nodCs (L.drop k) := by
  induction L generalizing k with
  | nil => simp [nodCs]
  | cons x L ih =>
    cases k with
    | zero => simp [nodCs]
    | succ k =>
      rw [List.drop_succ_cons, show nodCs (x :: L) = nodC x ++ nodCs L from rfl, ← ih, List.drop_append]
      have : (nodC x).length = 2 := rfl
      rw [this, show (k + 1) * 2 - 2 = k * 2 by omega, List.drop_of_length_le (by rw [this]; omega), List.nil_append]
theorem nodCs_app (L M : List NodE) : nodCs (L ++ M) = nodCs L ++ nodCs M := by simp [nodCs]
theorem run_clear_nod (w : World) (b o c : Nat) (ty : TypeId) (h0 : (w.cell? ⟨b, o, none⟩).isSome = true) (h1 : (w.cell? ⟨b, o + 1, none⟩).isSome = true) (f0 : w.frozen? ⟨b, o, none⟩ = false) (f1 : w.frozen? ⟨b, o + 1, none⟩ = false) :
    (Builtin.clear_ #[22] ty #[.slice (some ⟨b, o, none⟩) 1 c]).run Try.prog w = .ok (.tuple #[]) ((w.setCell ⟨b, o, none⟩ (.string ⟨#[]⟩)).setCell ⟨b, o + 1, none⟩ (.slice none 0 0)) := by
  have hst := run_storeCells_cells (P := Try.prog) b o [Value.string ⟨#[]⟩, Value.slice none 0 0] 0 w (by intro j hj; simp at hj; rcases (show j = 0 ∨ j = 1 by omega) with rfl | rfl; simpa using h0; simpa using h1) (by intro j hj; simp at hj; rcases (show j = 0 ∨ j = 1 by omega) with rfl | rfl; simpa using f0; simpa using f1) (by intro v hv; simp at hv; rcases hv with rfl | rfl <;> rfl)
  simp only [Nat.add_zero] at hst
  have hzc : (Builtin.zeroCells (Value.agg #[.string ⟨#[]⟩, .slice none 0 0]).cells 1).toList = [Value.string ⟨#[]⟩, Value.slice none 0 0] := by kernel_rfl
  simp [Builtin.clear_, run_underlying Try.underlying22, hzc, hst, World.setCells]
def DelP (base g n : Nat) (L : List NodE) (i : Nat) (w : World) (v : Value) (w' : World) : Prop :=
  ∃ c', v = .slice (some ⟨g, 0, none⟩) (n - 1) c' ∧ w'.ownsRow base 34 2 (.slice (some ⟨g, 0, none⟩) (n - 1) c') (n - 1) (nodCs (L.eraseIdx i)) ∧ w.grownBy w' (some g)

set_option maxRecDepth 1000000 in
set_option maxHeartbeats 4000000 in
theorem delN_any {base n c g i j : Nat} (L : List NodE) (hn : L.length = n) (w : World) (hown : w.ownsRow base 34 2 (.slice (some ⟨g, 0, none⟩) n c) n (nodCs L)) (hi : i < n) (hj : j = i + 1) (hn1 : n ≤ 1000) :
    Calls Try.prog 31 #[.slice (some ⟨g, 0, none⟩) n c, .int .i64 i, .int .i64 j] w (RV (DelP base g n L i w)) := by
  obtain ⟨hnc, hcm⟩ := own_len hown
  have hHas : Has w w.heap.size (some ⟨g, 0, none⟩) (nodCs L) := Has.of_own hown
  have HO := Lib.hid hown
  have Hj := Lib.hid hj
  have Hn := Lib.hid hn
  have hij : i < j := by omega
  have hjn : j ≤ n := by omega
  have hji : ((j : Int) - (i : Int)) = 1 := by omega
  have q0 : (0 : Int) ≤ (i : Int) := by omega
  have q1 : (i : Int) ≤ (j : Int) := by omega
  have q2 : (j : Int) ≤ (n : Int) := by omega
  have q3 : (n : Int) ≤ (c : Int) := by omega
  have q4 : ¬ (i : Int) = (j : Int) := by omega
  have q4b : ((i : Int) == (j : Int)) = false := by rw [beq_eq_false_iff_ne]; exact q4
  have q5 : (0 : Int) ≤ (j : Int) := by omega
  have q6 : (j : Int) ≤ (c : Int) := by omega
  have q7 : (i : Int) ≤ (c : Int) := by omega
  have hfront := Lib.hid (own_front hown (k := i) (by omega))
  have hsrc : Hid (∀ (q : Nat) (u : Value), ((nodCs L).drop (j * 2))[q]? = some u → w.cell? ((⟨g, j * 2, none⟩ : Addr).add q) = some u) := Lib.hid (fun q u hu => by
    rw [List.getElem?_drop] at hu
    obtain ⟨ad, e1, _, e2⟩ := hHas.at hu
    injection e1 with e1
    subst e1
    rw [← e2]
    congr 1
    unfold Addr.add
    split <;> split <;> simp_all <;> omega)
  obtain ⟨p, hp⟩ : ∃ p, n - 1 = p := ⟨_, rfl⟩
  have hpe : i + (n - j) = p := by omega
  have hnp : n - p = 1 := by omega
  have hpn : p ≤ n := by omega
  clear hown hj hn hHas
  by_cases hjc : j < c
  · have hcj : ¬ c = j := by omega
    go_enter Try.func31, Try.ntmps31
    go_wp2_with fail
    go_region_held_law (fun _ => True) (trivial)
      (first | (apply step_fits rfl (.tmp 22) (.tmp 25) 22 rfl elNod (g := g) (k := i) (cap := c) (xs := (nodCs L).take (i * 2)) (ad := ⟨g, j * 2, none⟩) (m := n - j) (c := c - j) (news := (nodCs L).drop (j * 2)) (base := base); (case hs => rfl); (case hown => exact hfront.out); (case hx => rfl); (case hl => (rw [List.length_drop, nodCs_len, Hn.out]; omega)); (case hc => exact hsrc.out); (case h1 => exact fun u hu => nodCs_one L u (List.mem_of_mem_drop hu)); (case hfit => omega)
                intro w5 hown5 hgrow5
                rw [hpe] at hown5 ⊢))
    obtain ⟨⟨u0, r0⟩, r1⟩ := own_room hown5 (k := p * 2) (by omega)
    obtain ⟨⟨u2, r2⟩, r3⟩ := own_room hown5 (k := p * 2 + 1) (by omega)
    have hcl := run_clear_nod w5 g (p * 2) (c - p) 0 (by rw [r0]; rfl) (by rw [r2]; rfl) r1 r3
    have hF := Lib.hid (show DelP base g n L i w (.slice (some ⟨g, 0, none⟩) p c) ((w5.setCell ⟨g, p * 2, none⟩ (.string ⟨#[]⟩)).setCell ⟨g, p * 2 + 1, none⟩ (.slice none 0 0)) from by
      refine ⟨c, by rw [hp], ?_, ?_⟩
      · rw [hp]
        have h9 := own_behind (own_behind hown5 (k := p * 2) (Nat.le_refl _) (.string ⟨#[]⟩)) (k := p * 2 + 1) (by omega) (.slice none 0 0)
        have e9 : (nodCs L).take (i * 2) ++ (nodCs L).drop (j * 2) = nodCs (L.eraseIdx i) := by
          rw [nodCs_take, nodCs_drop, ← nodCs_app, List.eraseIdx_eq_take_drop_succ, Hj.out]
        rw [e9] at h9
        exact h9
      · exact ⟨hgrow5.os, hgrow5.tape, hgrow5.output, by simp [World.setCell]; exact hgrow5.size, fun k hk hne => (Below.heap_setCell _ ⟨g, p * 2 + 1, none⟩ _ k (fun e => hne (by rw [e]))).trans ((Below.heap_setCell _ ⟨g, p * 2, none⟩ _ k (fun e => hne (by rw [e]))).trans (hgrow5.block k hk hne))⟩)
    clear hgrow5 hown5 r0 r1 r2 r3
    go_wp2_with fail
    go_ret
    exact RV.mk hF.out
  · obtain rfl : c = j := by omega
    obtain rfl : n = c := by omega
    have hip : i = p := by omega
    have Hip := Lib.hid hip
    clear hpe hip
    go_enter Try.func31, Try.ntmps31
    go_wp2_with fail
    go_region_held_law (fun _ => True) (trivial)
      (first | (apply step_fits rfl (.tmp 22) (.tmp 25) 22 rfl elNod (g := g) (k := i) (cap := n) (xs := (nodCs L).take (i * 2)) (ad := ⟨g, 0, none⟩) (m := 0) (c := 0) (news := []) (base := base); (case hs => rfl); (case hown => exact hfront.out); (case hx => rfl); (case hl => rfl); (case hc => (intro q u hu; cases hu)); (case h1 => (intro u hu; cases hu)); (case hfit => omega)
                intro w5 hown5 hgrow5
                rw [show i + 0 = p from Hip.out] at hown5 ⊢))
    obtain ⟨⟨u0, r0⟩, r1⟩ := own_room hown5 (k := p * 2) (by omega)
    obtain ⟨⟨u2, r2⟩, r3⟩ := own_room hown5 (k := p * 2 + 1) (by omega)
    have hcl := run_clear_nod w5 g (p * 2) 1 0 (by rw [r0]; rfl) (by rw [r2]; rfl) r1 r3
    have hF := Lib.hid (show DelP base g n L i w (.slice (some ⟨g, 0, none⟩) p n) ((w5.setCell ⟨g, p * 2, none⟩ (.string ⟨#[]⟩)).setCell ⟨g, p * 2 + 1, none⟩ (.slice none 0 0)) from by
      refine ⟨n, by rw [hp], ?_, ?_⟩
      · rw [hp]
        have h9 := own_behind (own_behind hown5 (k := p * 2) (Nat.le_refl _) (.string ⟨#[]⟩)) (k := p * 2 + 1) (by omega) (.slice none 0 0)
        have e9 : (nodCs L).take (i * 2) ++ [] = nodCs (L.eraseIdx i) := by
          rw [List.append_nil, nodCs_take, List.eraseIdx_eq_take_drop_succ, List.drop_of_length_le (by rw [Hn.out]; omega), List.append_nil]
        rw [e9] at h9
        exact h9
      · exact ⟨hgrow5.os, hgrow5.tape, hgrow5.output, by simp [World.setCell]; exact hgrow5.size, fun k hk hne => (Below.heap_setCell _ ⟨g, p * 2 + 1, none⟩ _ k (fun e => hne (by rw [e]))).trans ((Below.heap_setCell _ ⟨g, p * 2, none⟩ _ k (fun e => hne (by rw [e]))).trans (hgrow5.block k hk hne))⟩)
    clear hgrow5 hown5 r0 r1 r2 r3
    go_wp2_with fail
    go_ret
    exact RV.mk hF.out
end Go.Proofs.Ytmbpgenjjgepiaa
