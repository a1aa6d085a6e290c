/- Texts of the proof of HouseAcks, joined (by merge.py). Conditions: each theorem's own hypotheses. -/
import Derived.Test.YtihjgbhnlejhfaaGreatDoorHouseAcksP17
import Derived.Test.YtihjgbhnlejhfaaGreatDoorHouseAcksP19
import Derived.Test.YtihjgbhnlejhfaaGreatDoorHouseAcksP25
import Derived.Shelf.SlSortCmp.InsertionK
import Derived.Sort.OwnSorted
namespace Go.Proofs.YtihjgbhnlejhfaaGreatDoor
open Go.RowKit Go.Sort

theorem elPlc : Elem Tryz.prog 161 166 2 24 := Elem.mk' (z := .agg #[.int .u64 0, .string ⟨#[]⟩]) Tryz.underlying161 (by kernel_rfl) rfl (by decide)
def plcCs (M : List Plc) : List Value := M.flatMap encP
theorem plcCs_app1 (M : List Plc) (x : Plc) : plcCs (M ++ [x]) = plcCs M ++ (#[Value.int .u64 (x.t : Nat), .string x.nm] : Array Value).toList := by simp [plcCs, encP]
theorem plcCs_len (M : List Plc) : (plcCs M).length = M.length * 2 := flat_len (f := encP) (C := 2) (fun _ => rfl) M
/-- a node's places -/
def ndPl (x : Nod) : List Plc := x.tk.map fun t => ⟨t, x.nm⟩
/-- all the places, as the nodes come -/
def plAll (l : List Nod) : List Plc := l.flatMap ndPl
theorem plAll_app1 (l : List Nod) (x : Nod) : plAll (l ++ [x]) = plAll l ++ ndPl x := by simp [plAll]
theorem plAll_le (l : List Nod) {b : Nat} (h : ∀ x ∈ l, x.tk.length ≤ b) : (plAll l).length ≤ l.length * b := by
  induction l with
  | nil => simp [plAll]
  | cons x l ih =>
    have h1 := h x (List.mem_cons_self ..)
    have h2 := ih (fun y hy => h y (List.mem_cons_of_mem _ hy))
    have e : plAll (x :: l) = ndPl x ++ plAll l := by simp [plAll]
    rw [e, List.length_append, List.length_cons, Nat.succ_mul]
    have e2 : (ndPl x).length = x.tk.length := by simp [ndPl]
    omega
theorem take_app1 {l : List Nat} {k : Nat} (h : k < l.length) (nm : ByteArray) (M : List Plc) : M ++ (l.take (k + 1)).map (fun t => (⟨t, nm⟩ : Plc)) = (M ++ (l.take k).map (fun t => (⟨t, nm⟩ : Plc))) ++ [⟨at_ l k, nm⟩] := by
  rw [take_at h, List.map_append, List.append_assoc]; rfl
/-- what places answers, ahead of the sort -/
def PlcP (L : List NodE) (w : World) (v : Value) (w' : World) : Prop :=
  ∃ A' c' n', v = .slice A' n' c' ∧ n' = (plAll (L.map NodE.x)).length ∧ w'.ownsRow w.heap.size 166 2 (.slice A' n' c') n' (plcCs (plcs (plAll (L.map NodE.x)))) ∧ Below w.heap.size w w'
/-- what the sort is asked for -/
def SortC (P : Program) : Prop := ∀ (w : World) (base : Nat) (A : Option Addr) (n c : Nat) (M : List Plc), M.length = n → n ≤ 1000000 → w.ownsRow base 166 2 (.slice A n c) n (plcCs M) → base ≤ w.heap.size →
  Calls P 120 #[.slice A n c, .func (.func 121) #[] #[]] w fun e w' => e = .returned (.tuple #[]) ∧ w'.ownsRow base 166 2 (.slice A n c) n (plcCs (plcs M)) ∧ Below base w w'

theorem plc1_one (a : Nat) (nm : ByteArray) : ∀ u ∈ (#[.int .u64 (a : Nat), .string nm] : Array Value).toList, u.oneCell' = true := by
  intro u hu
  simp at hu
  rcases hu with rfl | rfl <;> rfl
set_option maxRecDepth 1000000 in
set_option maxHeartbeats 8000000 in
theorem places_of (HS : SortC Tryz.prog) (A : Option Addr) (n c : Nat) (L : List NodE) (hn : L.length = n) (hl : n ≤ 1000) (w : World) (h : Has w w.heap.size A (nodCs L)) (hL : ∀ e ∈ L, NodOk w e) (hs : ∀ e ∈ L, e.t.l.length ≤ 1000) :
    Calls Tryz.prog 98 #[.slice A n c] w (RV (PlcP L w)) := by
  have HS := Lib.hid HS
  have Hn := Lib.hid hn
  have Hh := Lib.hid h
  have HL := Lib.hid hL
  have Hs := Lib.hid hs
  have hbig : ∀ k, k ≤ n → (plAll ((L.take k).map NodE.x)).length ≤ k * 1000 := fun k hk => by
    have h1 := plAll_le ((L.take k).map NodE.x) (b := 1000) (fun x hx => by
      obtain ⟨e, he, rfl⟩ := List.mem_map.1 hx
      exact hs e (List.mem_of_mem_take he))
    rw [List.length_map, List.length_take] at h1
    have : min k L.length ≤ k := Nat.min_le_left _ _
    have := Nat.mul_le_mul_right 1000 this
    omega
  have Hbig := Lib.hid hbig
  clear hn h hL hs hbig
  go_enter Tryz.func98, Tryz.ntmps98
  go_wp2_with fail
  go_loopw [3, 10] (fun ov iv wr => ∃ (k m : Nat) (O : Option Addr) (e : Nat), k ≤ n ∧ iv = .int .i64 (k : Nat) ∧ ov = .slice O m e ∧ m ≤ k * 1000 ∧ Hid ((plAll ((L.take k).map NodE.x)).length = m) ∧ Hid (wr.ownsRow w.heap.size 166 2 (.slice O m e) m (plcCs (plAll ((L.take k).map NodE.x)))) ∧ Below w.heap.size w wr) (fun _ iv _ => n + 5 - (intOf iv).toNat)
  case atStart => exact ⟨0, 0, none, 0, by omega, rfl, rfl, by omega, Lib.hid rfl, Lib.hid ⟨rfl, .inl ⟨rfl, rfl⟩⟩, Below.refl _ _⟩
  case round =>
    obtain ⟨k, m, O, e, hk, rfl, rfl, hm1, hm, hown, hbr⟩ := hrel
    have hbs := hbr.size
    by_cases hlt : (k : Int) < (n : Int)
    · have hkL : k < L.length := by rw [Hn.out]; omega
      obtain ⟨ad, rfl, _, c0⟩ := (Hh.out.next hbr).at (nodCs_0 hkL)
      obtain ⟨ad', e', _, c1⟩ := (Hh.out.next hbr).at (nodCs_1 hkL)
      injection e' with e'
      subst e'
      have c1 := cell_off c1 (by decide)
      obtain ⟨⟨o1, o2, o3, o4⟩, o5, o6⟩ := HL.out _ (at_mem hkL)
      have hs := Hs.out _ (at_mem hkL)
      have htake := Lib.hid (take_at (l := L) (k := k) hkL)
      obtain ⟨x, hx⟩ : ∃ x, at_ L k = x := ⟨_, rfl⟩
      rw [hx] at c0 c1 o1 o2 o3 o4 o5 o6 hs htake
      obtain ⟨nm, ⟨T, tc, tl⟩⟩ := x
      simp only [] at c0 c1 o1 o2 o3 o4 o5 o6 hs
      obtain ⟨p, hp⟩ : ∃ p, tl.length = p := ⟨_, rfl⟩
      rw [hp] at c1 o1 hs
      have Hp := Lib.hid hp
      have kg : Blk (wr.alloc (.cells #[.string nm, .slice T p tc] 36)) wr.heap.size 36 #[.string nm, .slice T p tc] := Blk.new _ _ _
      have hb1 : Below wr.heap.size wr (wr.alloc (.cells #[.string nm, .slice T p tc] 36)) := (Below.refl _ _).alloc (Nat.le_refl _) _
      have hbe := bnext hbr hb1
      have HownE := Lib.hid (own_next hown.out hb1)
      have HT := Lib.hid o4
      obtain ⟨M, hM⟩ : ∃ M, plAll ((L.take k).map NodE.x) = M := ⟨_, rfl⟩
      rw [hM] at hm HownE
      have HM := Lib.hid (show plAll ((L.take (k + 1)).map NodE.x) = M ++ tl.map (fun t => (⟨t, nm⟩ : Plc)) by rw [htake.out, List.map_append, List.map_cons, List.map_nil, plAll_app1, hM]; rfl)
      have hownR := hown.out
      clear hp hx o1 o2 o3 o4 o5 o6 hown hM
      go_wp2_with fail
      obtain ⟨g, hg⟩ : ∃ g, wr.heap.size = g := ⟨_, rfl⟩
      obtain ⟨we, hwe⟩ : ∃ we, wr.alloc (.cells #[.string nm, .slice T p tc] 36) = we := ⟨_, rfl⟩
      rw [hwe] at kg hbe HownE ⊢
      rw [hg] at kg ⊢
      have hge : w.heap.size ≤ we.heap.size := hbe.size
      have hgw : w.heap.size ≤ g := by omega
      have hgne : (Value.slice O m e).ownBlock ≠ some g := fun h => by
        have h2 := (hownR.lt g h).2
        omega
      clear hwe hg hb1 c0 c1 hbs hownR hbr
      go_loopw [3, 17] (fun ov jv wq => ∃ (j q : Nat) (B : Option Addr) (f : Nat), j ≤ p ∧ jv = .int .i64 (j : Nat) ∧ ov = .slice B q f ∧ q = m + j ∧ Hid (wq.ownsRow w.heap.size 166 2 (.slice B q f) q (plcCs (M ++ (tl.take j).map (fun t => (⟨t, nm⟩ : Plc))))) ∧ Blk wq g 36 #[.string nm, .slice T p tc] ∧ Below w.heap.size w wq) (fun _ jv _ => p + 5 - (intOf jv).toNat)
      case atStart => exact ⟨0, m, O, e, by omega, rfl, rfl, rfl, Lib.hid (by rw [List.take_zero, List.map_nil, List.append_nil]; exact HownE.out), kg, hbe⟩
      case round =>
        obtain ⟨j, q, B, f, hj, rfl, rfl, rfl, hownQ, kq, hbq⟩ := hrel
        have hbqs := hbq.size
        by_cases hlt2 : (j : Int) < (p : Int)
        · have hjl : j < tl.length := by rw [Hp.out]; omega
          obtain ⟨bd, rfl, _, d1⟩ := (HT.out.next hbq).at (u64s_at hjl)
          have HQ := Lib.hid (take_app1 hjl nm M)
          obtain ⟨a1, ha1⟩ : ∃ a1, at_ tl j = a1 := ⟨_, rfl⟩
          rw [ha1] at d1 HQ
          obtain ⟨Mj, hMj⟩ : ∃ Mj, M ++ (tl.take j).map (fun t => (⟨t, nm⟩ : Plc)) = Mj := ⟨_, rfl⟩
          rw [hMj] at hownQ HQ
          have h63 : m + j + 1 ≤ maxLen := by unfold maxLen; omega
          have h16 : (m + j + 1) * 24 ≤ 140737488355328 := by omega
          have hown1 := hownQ.out
          have hneQ : some g ≠ (Value.slice B (m + j) f).ownBlock := blk_neN kq hown1 (by decide)
          clear ha1 hMj hownQ
          have y0 : wr.cell? ⟨g, 0, none⟩ = some (.string nm) := kq.cell 0
          have y1 : wr.cell? ⟨g, 1, none⟩ = some (.slice (some bd) p tc) := kq.cell 1
          go_wp2_with (at_builtin; refine wpList_append1 rfl _ _ _ rfl elPlc (v := .slice B (m + j) f) rfl hown1 rfl rfl rfl ?_ ?c1 ?c2 ?c3 ?c4; intro A5 c5 w5 hown5 hgrow5 hbel5)
          case c1 => exact ⟨rfl, rfl⟩
          case c2 => exact h16
          case c3 => exact h63
          case c4 => exact hbqs
          have kg5 : Blk w5 g 36 #[.string nm, .slice (some bd) p tc] := Blk.grown kq hgrow5 hneQ
          refine ⟨⟨j + 1, m + j + 1, A5, c5, by omega, by go_num, rfl, rfl, Lib.hid (by rw [HQ.out, plcCs_app1]; exact hown5), kg5, hbq.trans hbel5⟩, by simp [intOf]; omega⟩
        · obtain rfl : j = p := by omega
          have e2 := hownQ.out
          rw [show tl.take j = tl by rw [← Hp.out, List.take_length], ← HM.out] at e2
          have E2 := Lib.hid e2
          have hmz := Lib.hid (show (plAll ((L.take (k + 1)).map NodE.x)).length = m + j by rw [HM.out, List.length_append, List.length_map, hm.out, Hp.out])
          clear e2
          go_wp2_with fail
          refine ⟨⟨k + 1, m + j, B, f, by omega, by go_num, rfl, by omega, hmz, E2, hbq⟩, by simp [intOf]; omega⟩
    · obtain rfl : k = n := by omega
      have e1 : L.take k = L := by rw [← Hn.out, List.take_length]
      rw [e1] at hm hown
      have hm' := hm.out
      have hbS := Lib.hid (HS.out wr w.heap.size O m e _ hm.out (by omega) hown.out hbs)
      clear e1 hown
      go_wp2_with fail
      refine hbS.out.mono ?_
      rintro e9 w9 ⟨rfl, hown9, hb9⟩
      have Hown9 := Lib.hid hown9; clear hown9
      go_wp2_with fail
      go_ret
      exact RV.mk ⟨O, e, m, rfl, hm'.symm, Hown9.out, hbr.trans hb9⟩
end Go.Proofs.YtihjgbhnlejhfaaGreatDoor
namespace Go.Proofs.YtihjgbhnlejhfaaGreatDoor
open Go.RowKit Go.Sort

theorem flatK_list (M : List Plc) : (flatK encP 2 M.toArray).toList = plcCs M := by
  apply List.ext_getElem?
  intro t
  by_cases h : t < M.length * 2
  · have hk : t / 2 < M.length := by omega
    have h1 := flat_at (f := encP) (C := 2) (fun _ => rfl) hk (r := t % 2) (Nat.mod_lt _ (by decide))
    have h2 : t / 2 * 2 + t % 2 = t := by omega
    rw [h2] at h1
    have h3 := get_flatK encP 2 M.toArray t (by simpa using h)
    have hs : t < (flatK encP 2 M.toArray).toList.length := by simpa using h
    rw [List.getElem?_eq_getElem hs, Array.getElem_toList, ← getElem!_pos (flatK encP 2 M.toArray) t (by simpa using h), h3]
    unfold plcCs
    rw [h1]
    have h4 : M.toArray[t / 2]! = at_ M (t / 2) := by rw [at_eq hk]; simp [hk]
    rw [h4]
    rcases (show t % 2 = 0 ∨ t % 2 = 1 by omega) with h5 | h5 <;> rw [h5] <;> rfl
  · rw [List.getElem?_eq_none (by simp; omega), List.getElem?_eq_none (by rw [plcCs_len]; omega)]

theorem holds_flat {w : World} {g : Nat} {cur F : Array Value} {e : TypeId} (hb : w.heap[g]? = some (.cells cur e (0, 0))) (ht : cur.toList.take F.size = F.toList) : Holds id w g 0 F := by
  intro j hj
  refine ⟨?_, by simp [World.frozen?, hb]⟩
  have h1 : (cur.toList.take F.size)[j]? = F.toList[j]? := by rw [ht]
  rw [List.getElem?_take_of_lt hj] at h1
  simp only [World.cell?, hb, Nat.zero_add]
  simp only [Option.isSome_none, Bool.false_eq_true, if_false]
  rw [← Array.getElem?_toList, h1]
  simp [hj]
theorem heap_flat {w : World} {g n : Nat} {os : Array Obj} {cur : Array Value} {e : TypeId} {fr : Nat × Nat} (F : Array Value) (hb : w.heap[g]? = some (.cells cur e fr)) :
    (grow (putRow id (Sort.ahead w n) g 0 F) os).heap[g]? = some (.cells (putCells id 0 F cur) e fr) := by
  have hg : g < w.heap.size := (Array.getElem?_eq_some_iff.1 hb).1
  rw [heap_grow_old _ _ (by simpa using hg)]
  simp [putRow, mapBlock, Sort.ahead, Array.getElem?_modify, hb, onCells]
theorem grownBy_flat {w : World} {g n : Nat} {os : Array Obj} (F : Array Value) : w.grownBy (grow (putRow id (Sort.ahead w n) g 0 F) os) (some g) := by
  refine ⟨rfl, rfl, rfl, by simp, fun k hk hne => ?_⟩
  rw [heap_grow_old _ _ (by simpa using hk)]
  have : g ≠ k := fun e => hne (by rw [e])
  simp [putRow, mapBlock, Sort.ahead, Array.getElem?_modify, this]
theorem take_flat (cur F : Array Value) (h : F.size ≤ cur.size) : (putCells id 0 F cur).toList.take F.size = F.toList := by
  apply List.ext_getElem?
  intro j
  by_cases hj : j < F.size
  · rw [List.getElem?_take_of_lt hj, Array.getElem?_toList]
    simp [putCells, hj, show j < cur.size by omega]
  · rw [List.getElem?_take_eq_none (by omega), List.getElem?_eq_none (by simp; omega)]

theorem plcs_len (M : List Plc) : (plcs M).length = M.length := List.length_mergeSort M

theorem sortP_own {w : World} {base g cap n q : Nat} {e : TypeId} {os : Array Obj} {cur : Array Value} {N : List Plc} (hN : N.length = n) (hbase : base ≤ g) (hb : w.heap[g]? = some (.cells cur e (0, 0)))
    (h1 : n ≤ cap) (h2 : cap ≤ maxLen) (h3 : cur.size = cap * 2) :
    (sortWorldK encP 2 w g 0 q N.toArray os).ownsRow base e 2 (.slice (some ⟨g, 0, none⟩) n cap) n (plcCs N) := by
  refine ⟨by rw [plcCs_len, hN], .inr ⟨g, cap, _, rfl, hbase, heap_flat _ hb, h1, h2, by simp [putCells, h3], ?_⟩⟩
  have hs : (flatK encP 2 N.toArray).size = n * 2 := by simp [hN]
  have h := take_flat cur (flatK encP 2 N.toArray) (by rw [hs, h3]; omega)
  rw [hs, flatK_list] at h
  exact h
theorem sortP_holds {w : World} {g n : Nat} {e : TypeId} {cur : Array Value} {M : List Plc} (hM : M.length = n) (hb : w.heap[g]? = some (.cells cur e (0, 0))) (ht : cur.toList.take (n * 2) = plcCs M) : HoldsK encP 2 w g 0 M.toArray := by
  refine holds_flat hb ?_
  rw [flatK_list, size_flatK, List.size_toArray, hM]
  exact ht
theorem sortP_below {w : World} {g q base : Nat} {os : Array Obj} {N : List Plc} (h : base ≤ g) (hb : base ≤ w.heap.size) : Below base w (sortWorldK encP 2 w g 0 q N.toArray os) :=
  (Below.refl _ _).grown (grownBy_flat _) hb (fun k hk => by injection hk with hk; omega)
end Go.Proofs.YtihjgbhnlejhfaaGreatDoor
namespace Go.Proofs.YtihjgbhnlejhfaaGreatDoor
open Go.RowKit Go.Sort

theorem plcCs_0 {l : List Plc} {k : Nat} (h : k < l.length) : (plcCs l)[k * 2]? = some (.int .u64 (at_ l k).t) := flat_at (f := encP) (C := 2) (fun _ => rfl) h (r := 0) (by decide)
theorem plcCs_1 {l : List Plc} {k : Nat} (h : k < l.length) : (plcCs l)[k * 2 + 1]? = some (.string (at_ l k).nm) := flat_at (f := encP) (C := 2) (fun _ => rfl) h (r := 1) (by decide)
def sideP (x : Plc) (a : Nat) : Int := if x.t < a then -1 else 1
set_option maxRecDepth 1000000 in
set_option maxHeartbeats 4000000 in
theorem owners1_any (x : Plc) (a : Nat) (w : World) : Calls Tryz.prog 100 #[.agg #[.int .u64 (x.t : Nat), .string x.nm], .int .u64 (a : Nat)] w (R1 (.int .i64 (sideP x a)) (Below w.heap.size w)) := by
  have hb0 : Below w.heap.size w (w.alloc (.cells #[.int .u64 (x.t : Nat), .string x.nm] 166)) := one_alloc w _
  have ka : Blk (w.alloc (.cells #[.int .u64 (x.t : Nat), .string x.nm] 166)) w.heap.size 166 #[.int .u64 (x.t : Nat), .string x.nm] := Blk.new _ _ _
  have p0 := ka.cell 0
  have p1 := ka.cell 1
  by_cases h : (x.t : Int) < (a : Int)
  · have e := Lib.hid (show sideP x a = -1 by unfold sideP; rw [if_pos (by omega)])
    rw [e.out]
    go_enter Tryz.func100, Tryz.ntmps100
    go_wp2_with fail
    go_ret
    exact R1.mk rfl hb0
  · have e := Lib.hid (show sideP x a = 1 by unfold sideP; rw [if_neg (by omega)])
    rw [e.out]
    go_enter Tryz.func100, Tryz.ntmps100
    go_wp2_with fail
    go_ret
    exact R1.mk rfl hb0
/-- i is where a falls -/
def FallP (l : List Plc) (a i : Nat) : Prop := i ≤ l.length ∧ (∀ q, q < i → (at_ l q).t < a) ∧ ∀ q, i ≤ q → q < l.length → a ≤ (at_ l q).t
def UpP (l : List Plc) : Prop := ∀ q r, q < r → r < l.length → (at_ l q).t ≤ (at_ l r).t

set_option maxRecDepth 1000000 in
set_option maxHeartbeats 4000000 in
theorem bsfP_any (A : Option Addr) (n c : Nat) (l : List Plc) (hn : l.length = n) (hl : n ≤ 4000000000000000000) (hu : UpP l) (x : Nat) (w : World) (h : Has w w.heap.size A (plcCs l)) :
    Calls Tryz.prog 99 #[.slice A n c, .int .u64 (x : Nat), .func (.func 100) #[] #[]] w (RV fun v w' => (∃ (i : Nat) (b : Bool), v = .tuple #[.int .i64 i, .bool b] ∧ FallP l x i) ∧ Below w.heap.size w w') := by
  have Hn := Lib.hid hn; clear hn
  have HU := Lib.hid hu; clear hu
  have Hh := Lib.hid h; clear h
  go_enter Tryz.func99, Tryz.ntmps99
  go_wp2_with fail
  go_loopw [9, 10] (fun a b wr => ∃ i j : Nat, i ≤ j ∧ j ≤ n ∧ a = .int .i64 (i : Nat) ∧ b = .int .i64 (j : Nat) ∧ Hid ((∀ q, q < i → (at_ l q).t < x) ∧ ∀ q, j ≤ q → q < n → x ≤ (at_ l q).t) ∧ Below w.heap.size w wr) (fun a b _ => (intOf b).toNat - (intOf a).toNat)
  case atStart => exact ⟨0, n, by omega, by omega, rfl, rfl, Lib.hid ⟨fun q hq => by omega, fun q h1 h2 => by omega⟩, Below.refl _ _⟩
  case round =>
    obtain ⟨i, j, hij, hjn, rfl, rfl, hq, hbr⟩ := hrel
    have hbs := hbr.size
    by_cases hlt : (i : Int) < (j : Int)
    · obtain ⟨m, hm⟩ : ∃ m, (i + j) / 2 = m := ⟨_, rfl⟩
      have h1 : i ≤ m := by omega
      have h2 : m < j := by omega
      have e1 : Hid (((i : Int) + (j : Int)) / 2 = (m : Int)) := Lib.hid (by omega)
      have Hm := Lib.hid hm
      clear hm
      have hml : m < l.length := by rw [Hn.out]; omega
      obtain ⟨ad, rfl, had, c0⟩ := (Hh.out.next hbr).at (plcCs_0 hml)
      obtain ⟨ad', e', _, c1⟩ := (Hh.out.next hbr).at (plcCs_1 hml)
      injection e' with e'
      subst e'
      have c1 := cell_off c1 (by decide)
      obtain ⟨y, hy⟩ : ∃ y, at_ l m = y := ⟨_, rfl⟩
      rw [hy, ← Hm.out] at c0 c1
      have Hy := Lib.hid hy
      clear hy hml
      by_cases hyx : y.t < x
      · have E := Lib.hid (show sideP y x = -1 by unfold sideP; rw [if_pos hyx])
        go_wp2_with fail
        refine (owners1_any y x _).mono ?_
        rw [E.out]
        rintro e w1 ⟨rfl, hb1⟩
        go_wp2_with fail
        rw [e1.out]
        go_roundw
        case rel =>
          refine ⟨m + 1, j, by omega, hjn, by go_num, rfl, Lib.hid ⟨fun q hq2 => ?_, hq.out.2⟩, bnext hbr hb1⟩
          rcases Nat.lt_or_ge q m with g | g
          · have := HU.out q m g (by rw [Hn.out]; omega)
            rw [Hy.out] at this
            omega
          · rw [show q = m by omega, Hy.out]; exact hyx
        case measure => simp [intOf]; omega
      · have E := Lib.hid (show sideP y x = 1 by unfold sideP; rw [if_neg hyx])
        go_wp2_with fail
        refine (owners1_any y x _).mono ?_
        rw [E.out]
        rintro e w1 ⟨rfl, hb1⟩
        go_wp2_with fail
        rw [e1.out]
        go_roundw
        case rel =>
          refine ⟨i, m, h1, by omega, rfl, by go_num, Lib.hid ⟨hq.out.1, fun q h3 h4 => ?_⟩, bnext hbr hb1⟩
          rcases Nat.lt_or_ge m q with g | g
          · have := HU.out m q g (by rw [Hn.out]; exact h4)
            rw [Hy.out] at this
            omega
          · rw [show q = m by omega, Hy.out]; omega
        case measure => simp [intOf]; omega
    · have hij2 : j = i := by omega
      subst hij2
      have hp := Lib.hid (show FallP l x j from ⟨by rw [Hn.out]; exact hjn, hq.out.1, fun q h1 h2 => hq.out.2 q h1 (by rw [← Hn.out]; exact h2)⟩)
      by_cases hjl : (j : Int) < (n : Int)
      · have hml : j < l.length := by rw [Hn.out]; omega
        obtain ⟨ad, rfl, had, c0⟩ := (Hh.out.next hbr).at (plcCs_0 hml)
        obtain ⟨ad', e', _, c1⟩ := (Hh.out.next hbr).at (plcCs_1 hml)
        injection e' with e'
        subst e'
        have c1 := cell_off c1 (by decide)
        obtain ⟨y, hy⟩ : ∃ y, at_ l j = y := ⟨_, rfl⟩
        rw [hy] at c0 c1
        clear hy hml hlt
        obtain ⟨sd, hsd⟩ : ∃ sd, sideP y x = sd := ⟨_, rfl⟩
        have h0 : ((sd : Int) == 0) = false := by rw [← hsd]; unfold sideP; split <;> rfl
        have E := Lib.hid hsd
        clear hsd
        go_wp2_with ((refine (owners1_any y x _).mono ?_; rw [E.out]; rintro e w1 ⟨rfl, hb1⟩))
        go_ret2
        exact RV.mk ⟨⟨j, _, rfl, hp.out⟩, bnext hbr hb1⟩
      · clear hlt
        go_wp2_with fail
        go_ret2
        exact RV.mk ⟨⟨j, .inl rfl, hp.out⟩, hbr⟩
end Go.Proofs.YtihjgbhnlejhfaaGreatDoor
namespace Go.Proofs.YtihjgbhnlejhfaaGreatDoor
open Go.RowKit Go.Sort

theorem plcs_up (M : List Plc) : UpP (plcs M) := by
  have h := List.pairwise_mergeSort (le := fun x y => !(ltOf cfP) y x)
    (fun x y z h1 h2 => by
      simp only [Bool.not_eq_true'] at h1 h2 ⊢
      exact swoP.ntrans z y x h2 h1)
    (fun x y => by
      cases h1 : ltOf cfP y x with
      | false => rfl
      | true =>
        cases h2 : ltOf cfP x y with
        | false => rfl
        | true => have := swoP.trans _ _ _ h1 h2; rw [swoP.irrefl] at this; cases this) M
  intro q r hqr hr
  have h1 := List.pairwise_iff_getElem.1 h q r (by unfold plcs at hr; omega) (by unfold plcs at hr; exact hr) hqr
  have e1 : at_ (plcs M) q = (plcs M)[q] := at_eq (by omega)
  have e2 : at_ (plcs M) r = (plcs M)[r] := at_eq hr
  rw [e1, e2]
  have h2 : ltOf cfP (plcs M)[r] (plcs M)[q] = false := by
    have h3 : (!(ltOf cfP) (plcs M)[r] (plcs M)[q]) = true := h1
    simpa using h3
  rw [cfP_neg, decide_eq_false_iff_not] at h2
  exact Nat.not_lt.1 (fun g => h2 (.inl g))
/-- the nodes met in k steps from place i on, at most m of them, each once -/
def ownGo (p : List Plc) (i m : Nat) : Nat → List ByteArray
  | 0 => []
  | k + 1 => let o := ownGo p i m k; let x := (at_ p ((i + k) % p.length)).nm; if o.length < m ∧ hasS x o = false then o ++ [x] else o
theorem ownGo_le (p : List Plc) (i m k : Nat) : (ownGo p i m k).length ≤ k := by
  induction k with
  | zero => simp [ownGo]
  | succ k ih => simp only [ownGo]; split; (rw [List.length_append]; simp; omega); omega
end Go.Proofs.YtihjgbhnlejhfaaGreatDoor
namespace Go.Proofs.YtihjgbhnlejhfaaGreatDoor
open Go.RowKit Go.Sort

/-- each one once, where it comes first -/
def uq {α : Type} [DecidableEq α] : List α → List α
  | [] => []
  | x :: l => x :: (uq l).filter fun y => decide (y ≠ x)
theorem mem_uq {α : Type} [DecidableEq α] {l : List α} {y : α} : y ∈ uq l ↔ y ∈ l := by
  induction l with
  | nil => simp [uq]
  | cons x l ih =>
    by_cases h : y = x
    · simp [uq, h]
    · simp [uq, ih, h]
theorem uq_filter {α : Type} [DecidableEq α] (p : α → Bool) (l : List α) : uq (l.filter p) = (uq l).filter p := by
  induction l with
  | nil => rfl
  | cons x l ih =>
    cases hp : p x with
    | true =>
      rw [List.filter_cons_of_pos hp, uq, uq, ih, List.filter_cons_of_pos hp, List.filter_filter, List.filter_filter]
      congr 1; congr 1; funext y; exact Bool.and_comm _ _
    | false =>
      rw [List.filter_cons_of_neg (by rw [hp]; decide), uq, List.filter_cons_of_neg (by rw [hp]; decide), ih, List.filter_filter]
      apply List.filter_congr
      intro y _
      by_cases h : y = x
      · subst h; simp [hp]
      · simp [h]
theorem uq_nodup {α : Type} [DecidableEq α] (l : List α) : (uq l).Nodup := by
  induction l with
  | nil => exact List.nodup_nil
  | cons x l ih => exact List.nodup_cons.2 ⟨by simp, ih.filter _⟩
theorem uq_app {α : Type} [DecidableEq α] (l m : List α) : uq (l ++ m) = uq l ++ (uq m).filter (fun y => decide (y ∉ l)) := by
  induction l with
  | nil => simp only [uq, List.nil_append]; exact (List.filter_eq_self.2 (by simp)).symm
  | cons x l ih =>
    rw [List.cons_append, uq, uq, ih, List.filter_append, List.cons_append, List.filter_filter]
    congr 2
    apply List.filter_congr
    intro y _
    by_cases h : y = x <;> by_cases h2 : y ∈ l <;> simp [h, h2]
theorem uq_app1 {α : Type} [DecidableEq α] (l : List α) (x : α) : uq (l ++ [x]) = if x ∈ uq l then uq l else uq l ++ [x] := by
  rw [uq_app]
  by_cases h : x ∈ l
  · rw [if_pos (mem_uq.2 h)]; simp [uq, h]
  · rw [if_neg (fun g => h (mem_uq.1 g))]; simp [uq, h]

/-- the places on the way round from a number on -/
def rot (P : List Plc) (a : Nat) : List Plc := P.filter (fun x => decide (a ≤ x.t)) ++ P.filter fun x => decide (¬ a ≤ x.t)
theorem rot_filter (P : List Plc) (a : Nat) (q : Plc → Bool) : rot (P.filter q) a = (rot P a).filter q := by
  unfold rot
  rw [List.filter_append]
  simp only [List.filter_filter]
  congr 1 <;> (apply List.filter_congr; intro y _; exact Bool.and_comm _ _)
theorem rot_fall {P : List Plc} {a i : Nat} (h : FallP P a i) : rot P a = P.drop i ++ P.take i := by
  obtain ⟨h0, h1, h2⟩ := h
  have hlo : ∀ x ∈ P.take i, ¬ a ≤ x.t := fun x hx => by
    obtain ⟨q, hq, rfl⟩ := List.getElem_of_mem hx
    rw [List.length_take] at hq
    have := h1 q (by omega)
    rw [at_eq (show q < P.length by omega)] at this
    rw [List.getElem_take]; omega
  have hhi : ∀ x ∈ P.drop i, a ≤ x.t := fun x hx => by
    obtain ⟨q, hq, rfl⟩ := List.getElem_of_mem hx
    rw [List.length_drop] at hq
    have := h2 (i + q) (by omega) (by omega)
    rw [at_eq (show i + q < P.length by omega)] at this
    rw [List.getElem_drop]; exact this
  unfold rot
  conv => lhs; rw [← List.take_append_drop i P]
  rw [List.filter_append, List.filter_append, List.filter_eq_nil_iff.2 (fun x hx => by simpa using hlo x hx), List.filter_eq_self.2 (fun x hx => by simpa using hhi x hx), List.filter_eq_self.2 (fun x hx => by simpa using hlo x hx), List.filter_eq_nil_iff.2 (fun x hx => by simpa using hhi x hx), List.nil_append, List.append_nil]
theorem rot_at {P : List Plc} {i k : Nat} (h0 : i ≤ P.length) (hk : k < P.length) : at_ (P.drop i ++ P.take i) k = at_ P ((i + k) % P.length) := by
  have hl : (P.drop i ++ P.take i).length = P.length := by rw [List.length_append, List.length_drop, List.length_take]; omega
  have hm : (i + k) % P.length < P.length := Nat.mod_lt _ (by omega)
  rw [at_eq (by omega), at_eq hm]
  by_cases h : i + k < P.length
  · have hm2 : (i + k) % P.length = i + k := Nat.mod_eq_of_lt h
    rw [List.getElem_append_left (by rw [List.length_drop]; omega), List.getElem_drop]
    simp only [hm2]
  · have hm2 : (i + k) % P.length = i + k - P.length := by
      rw [Nat.mod_eq_sub_mod (by omega), Nat.mod_eq_of_lt (by omega)]
    rw [List.getElem_append_right (by rw [List.length_drop]; omega), List.getElem_take]
    simp only [hm2, List.length_drop]
    congr 1
    omega
/-- all owners, in order -/
def ownU (P : List Plc) (a : Nat) : List ByteArray := uq ((rot P a).map (·.nm))
theorem ownGo_take {P : List Plc} {a i : Nat} (h : FallP P a i) (m : Nat) : ∀ k, k ≤ P.length → ownGo P i m k = (uq (((rot P a).take k).map (·.nm))).take m := by
  intro k
  induction k with
  | zero => intro _; simp [ownGo, uq]
  | succ k ih =>
    intro hk
    have hl : (rot P a).length = P.length := by rw [rot_fall h, List.length_append, List.length_drop, List.length_take]; have := h.1; omega
    have e1 : ((rot P a).take (k + 1)).map (·.nm) = ((rot P a).take k).map (·.nm) ++ [(at_ P ((i + k) % P.length)).nm] := by
      rw [take_at (show k < (rot P a).length by omega), List.map_append, List.map_cons, List.map_nil, rot_fall h, rot_at h.1 (by omega)]
    rw [e1, uq_app1]
    simp only [ownGo]
    rw [ih (by omega)]
    obtain ⟨U, hU⟩ : ∃ U, uq (((rot P a).take k).map (·.nm)) = U := ⟨_, rfl⟩
    obtain ⟨x, hx⟩ : ∃ x, (at_ P ((i + k) % P.length)).nm = x := ⟨_, rfl⟩
    rw [hU, hx]
    by_cases hm : U.length < m
    · rw [List.take_of_length_le (by omega)]
      by_cases hxu : x ∈ U
      · rw [if_pos hxu, if_neg (fun g => by have := g.2; rw [(hasS_iff x U).2 hxu] at this; cases this), List.take_of_length_le (by omega)]
      · rw [if_neg hxu, if_pos ⟨hm, by rw [Bool.eq_false_iff]; exact fun g => hxu ((hasS_iff x U).1 g)⟩, List.take_of_length_le (by rw [List.length_append]; simp; omega)]
    · rw [if_neg (fun g => by have := g.1; rw [List.length_take] at this; omega)]
      by_cases hxu : x ∈ U
      · rw [if_pos hxu]
      · rw [if_neg hxu, List.take_append_of_le_length (by omega)]
theorem ownGo_all {P : List Plc} {a i : Nat} (h : FallP P a i) (m k : Nat) (hk : k = P.length) : ownGo P i m k = (ownU P a).take m := by
  subst hk
  have hl : (rot P a).length = P.length := by rw [rot_fall h, List.length_append, List.length_drop, List.length_take]; have := h.1; omega
  rw [ownGo_take h m _ (Nat.le_refl _), ← hl, List.take_length]; rfl

theorem plcs_filter (M : List Plc) (q : Plc → Bool) : plcs (M.filter q) = (plcs M).filter q := by
  have tr : ∀ x y z : Plc, (!(ltOf cfP) y x) = true → (!(ltOf cfP) z y) = true → (!(ltOf cfP) z x) = true := fun x y z h1 h2 => by
    simp only [Bool.not_eq_true'] at h1 h2 ⊢
    exact swoP.ntrans z y x h2 h1
  have tot : ∀ x y : Plc, ((!(ltOf cfP) y x) || (!(ltOf cfP) x y)) = true := fun x y => by
    cases h1 : ltOf cfP y x with
    | false => rfl
    | true =>
      cases h2 : ltOf cfP x y with
      | false => rfl
      | true => have := swoP.trans _ _ _ h1 h2; rw [swoP.irrefl] at this; cases this
  refine List.Perm.eq_of_pairwise (le := fun x y => (!(ltOf cfP) y x) = true) (fun x y _ _ h1 h2 => totP x y (by simpa using h2) (by simpa using h1)) (List.pairwise_mergeSort tr tot _) ((List.pairwise_mergeSort tr tot M).filter q) ?_
  exact (List.mergeSort_perm _ _).trans ((List.mergeSort_perm M _).filter q).symm
theorem ownU_filter (M : List Plc) (a : Nat) (x : ByteArray) : ownU (plcs (M.filter fun y => decide (y.nm ≠ x))) a = (ownU (plcs M) a).filter fun y => decide (y ≠ x) := by
  unfold ownU
  rw [plcs_filter, rot_filter, ← uq_filter, List.filter_map]
  rfl
theorem plAll_erase {l : List Nod} {x : ByteArray} {p : Nod → Bool} (hp : ∀ y, p y = decide (y.nm ≠ x)) : plAll (l.filter p) = (plAll l).filter fun y => decide (y.nm ≠ x) := by
  induction l with
  | nil => rfl
  | cons z l ih =>
    have e : plAll (z :: l) = ndPl z ++ plAll l := by simp [plAll]
    rw [e, List.filter_append, ← ih]
    by_cases h : z.nm = x
    · have e3 : (ndPl z).filter (fun y => decide (y.nm ≠ x)) = [] := List.filter_eq_nil_iff.2 (fun y hy => by
        unfold ndPl at hy
        obtain ⟨t, _, rfl⟩ := List.mem_map.1 hy
        simp [h])
      rw [List.filter_cons_of_neg (by rw [hp]; simp [h]), e3, List.nil_append]
    · have e3 : (ndPl z).filter (fun y => decide (y.nm ≠ x)) = ndPl z := List.filter_eq_self.2 (fun y hy => by
        unfold ndPl at hy
        obtain ⟨t, _, rfl⟩ := List.mem_map.1 hy
        simp [h])
      have e2 : plAll (z :: l.filter p) = ndPl z ++ plAll (l.filter p) := by simp [plAll]
      rw [List.filter_cons_of_pos (by rw [hp]; simp [h]), e2, e3]
theorem insR_filter {l : List Nod} {x : Nod} {i : Nat} (hn : ∀ y ∈ l, y.nm ≠ x.nm) : (insR l x i).filter (fun y => decide (y.nm ≠ x.nm)) = l := by
  unfold insR
  rw [List.filter_append, List.filter_cons_of_neg (by simp), ← List.filter_append, List.take_append_drop]
  exact List.filter_eq_self.2 (fun y hy => by simpa using hn y hy)
/-- who joins takes a number for itself alone -/
theorem ownU_ins {l : List Nod} {x : Nod} {i : Nat} (hn : ∀ y ∈ l, y.nm ≠ x.nm) (a : Nat) : ownU (plcs (plAll l)) a = (ownU (plcs (plAll (insR l x i))) a).filter fun y => decide (y ≠ x.nm) := by
  rw [← ownU_filter, ← plAll_erase (p := fun y => decide (y.nm ≠ x.nm)) (fun _ => rfl), insR_filter hn]
theorem ownU_mem {l : List Nod} {a : Nat} {o : ByteArray} (h : o ∈ ownU (plcs (plAll l)) a) : ∃ x ∈ l, x.nm = o ∧ 0 < x.tk.length := by
  unfold ownU at h
  rw [mem_uq] at h
  obtain ⟨y, hy, rfl⟩ := List.mem_map.1 h
  have h2 : y ∈ plcs (plAll l) := by
    unfold rot at hy
    rcases List.mem_append.1 hy with g | g <;> exact (List.mem_filter.1 g).1
  have h3 : y ∈ plAll l := (List.mergeSort_perm _ _).mem_iff.1 h2
  unfold plAll at h3
  obtain ⟨x, hx, h4⟩ := List.mem_flatMap.1 h3
  unfold ndPl at h4
  obtain ⟨t, ht, rfl⟩ := List.mem_map.1 h4
  exact ⟨x, hx, rfl, List.length_pos_of_mem ht⟩
/-- of a row that has each once: what stays of the first m behind a strike -/
theorem strike_none {U : List ByteArray} {x : ByteArray} {m : Nat} (h : x ∉ U.take m) : (U.filter fun y => decide (y ≠ x)).take m = U.take m := by
  conv => lhs; rw [← List.take_append_drop m U]
  rw [List.filter_append, List.filter_eq_self.2 (fun y hy => by simp only [decide_eq_true_eq]; rintro rfl; exact h hy)]
  by_cases hm : m ≤ U.length
  · rw [List.take_append_of_le_length (by rw [List.length_take]; omega), List.take_of_length_le (by rw [List.length_take]; omega)]
  · rw [List.drop_of_length_le (by omega), List.filter_nil, List.append_nil, List.take_take, Nat.min_self]
theorem eraseIdx_nodup {α : Type} [DecidableEq α] {x : α} : ∀ {l : List α} {i : Nat}, l.Nodup → (h : i < l.length) → l[i] = x → l.eraseIdx i = l.filter fun y => decide (y ≠ x)
  | [], i, _, h, _ => absurd h (Nat.not_lt_zero _)
  | y :: l, 0, hn, _, hx => by
    have hx : y = x := hx
    subst hx
    rw [List.eraseIdx_cons_zero, List.filter_cons_of_neg (by simp)]
    exact (List.filter_eq_self.2 (fun z hz => by simp only [decide_eq_true_eq]; rintro rfl; exact (List.nodup_cons.1 hn).1 hz)).symm
  | y :: l, i + 1, hn, h, hx => by
    have hx : l[i]'(Nat.lt_of_succ_lt_succ h) = x := hx
    have hy : y ≠ x := by rintro rfl; exact (List.nodup_cons.1 hn).1 (hx ▸ List.getElem_mem _)
    rw [List.eraseIdx_cons_succ, List.filter_cons_of_pos (by simp [hy]), eraseIdx_nodup (List.nodup_cons.1 hn).2 _ hx]
theorem strike_some {U : List ByteArray} {x : ByteArray} {m i : Nat} (hu : U.Nodup) (hi : i < (U.take m).length) (hx : (U.take m)[i] = x) :
    ((U.filter fun y => decide (y ≠ x)).take m).take ((U.take m).length - 1) = (U.take m).eraseIdx i ∧ ((U.filter fun y => decide (y ≠ x)).take m).length - ((U.take m).length - 1) ≤ 1 ∧ (U.take m).length - 1 ≤ ((U.filter fun y => decide (y ≠ x)).take m).length := by
  have hn : (U.take m).Nodup := hu.sublist (List.take_sublist _ _)
  have he : (U.take m).eraseIdx i = (U.take m).filter fun y => decide (y ≠ x) := eraseIdx_nodup hn hi hx
  have hl : ((U.take m).eraseIdx i).length = (U.take m).length - 1 := by rw [List.length_eraseIdx, if_pos hi]
  have hs : U.filter (fun y => decide (y ≠ x)) = (U.take m).eraseIdx i ++ (U.drop m).filter fun y => decide (y ≠ x) := by
    rw [he, ← List.filter_append, List.take_append_drop]
  have hlm : (U.take m).length = min m U.length := List.length_take
  have hd : ((U.drop m).filter fun y => decide (y ≠ x)).length ≤ U.length - m := by
    have := List.length_filter_le (fun y => decide (y ≠ x)) (U.drop m)
    rw [List.length_drop] at this; exact this
  have h3 : (((U.take m).eraseIdx i ++ (U.drop m).filter fun y => decide (y ≠ x)).take m).length = min m (((U.take m).eraseIdx i).length + ((U.drop m).filter fun y => decide (y ≠ x)).length) := by rw [List.length_take, List.length_append]
  rw [hs]
  refine ⟨?_, ?_, ?_⟩
  · rw [List.take_take, Nat.min_eq_left (by omega), ← hl, List.take_left]
  · rw [h3, hl]; omega
  · rw [h3, hl]; omega
end Go.Proofs.YtihjgbhnlejhfaaGreatDoor
