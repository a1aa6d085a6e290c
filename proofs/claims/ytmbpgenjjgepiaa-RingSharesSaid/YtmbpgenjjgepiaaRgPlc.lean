/- What a ring's places are. Conditions: nodes lie in their cells, and are not many. -/
import Derived.Test.YtmbpgenjjgepiaaRgOrd
import Derived.Test.YtmbpgenjjgepiaaRgOwn
namespace Go.Proofs.Ytmbpgenjjgepiaa
open Go.RowKit Go.Sort

theorem elPlc : Elem Try.prog 52 57 2 24 := Elem.mk' (z := .agg #[.int .u64 0, .string ⟨#[]⟩]) Try.underlying52 (by kernel_rfl) rfl (by decide)
def plcCs (M : List Plc) : List Value := M.flatMap encP
theorem plcCs_app1 (M : List Plc) (x : Plc) : plcCs (M ++ [x]) = plcCs M ++ (#[Value.int .u64 (x.t : Nat), .string x.nm] : Array Value).toList := by simp [plcCs, encP]
theorem plcCs_len (M : List Plc) : (plcCs M).length = M.length * 2 := flat_len (f := encP) (C := 2) (fun _ => rfl) M
/-- a node's places -/
def ndPl (x : Nod) : List Plc := x.tk.map fun t => ⟨t, x.nm⟩
/-- all the places, as the nodes come -/
def plAll (l : List Nod) : List Plc := l.flatMap ndPl
theorem plAll_app1 (l : List Nod) (x : Nod) : plAll (l ++ [x]) = plAll l ++ ndPl x := by simp [plAll]
theorem plAll_le (l : List Nod) {b : Nat} (h : ∀ x ∈ l, x.tk.length ≤ b) : (plAll l).length ≤ l.length * b := by
  induction l with
  | nil => simp [plAll]
  | cons x l ih =>
    have h1 := h x (List.mem_cons_self ..)
    have h2 := ih (fun y hy => h y (List.mem_cons_of_mem _ hy))
    have e : plAll (x :: l) = ndPl x ++ plAll l := by simp [plAll]
    rw [e, List.length_append, List.length_cons, Nat.succ_mul]
    have e2 : (ndPl x).length = x.tk.length := by simp [ndPl]
    omega
theorem take_app1 {l : List Nat} {k : Nat} (h : k < l.length) (nm : ByteArray) (M : List Plc) : M ++ (l.take (k + 1)).map (fun t => (⟨t, nm⟩ : Plc)) = (M ++ (l.take k).map (fun t => (⟨t, nm⟩ : Plc))) ++ [⟨at_ l k, nm⟩] := by
  rw [take_at h, List.map_append, List.append_assoc]; rfl
/-- what places answers, ahead of the sort -/
def PlcP (L : List NodE) (w : World) (v : Value) (w' : World) : Prop :=
  ∃ A' c' n', v = .slice A' n' c' ∧ n' = (plAll (L.map NodE.x)).length ∧ w'.ownsRow w.heap.size 57 2 (.slice A' n' c') n' (plcCs (plcs (plAll (L.map NodE.x)))) ∧ Below w.heap.size w w'
/-- what the sort is asked for -/
def SortC (P : Program) : Prop := ∀ (w : World) (base : Nat) (A : Option Addr) (n c : Nat) (M : List Plc), M.length = n → n ≤ 1000000 → w.ownsRow base 57 2 (.slice A n c) n (plcCs M) → base ≤ w.heap.size →
  Calls P 39 #[.slice A n c, .func (.func 40) #[] #[]] w fun e w' => e = .returned (.tuple #[]) ∧ w'.ownsRow base 57 2 (.slice A n c) n (plcCs (plcs M)) ∧ Below base w w'

theorem plc1_one (a : Nat) (nm : ByteArray) : ∀ u ∈ (#[.int .u64 (a : Nat), .string nm] : Array Value).toList, u.oneCell' = true := by
  intro u hu
  simp at hu
  rcases hu with rfl | rfl <;> rfl
set_option maxRecDepth 1000000 in
set_option maxHeartbeats 8000000 in
theorem places_of (HS : SortC Try.prog) (A : Option Addr) (n c : Nat) (L : List NodE) (hn : L.length = n) (hl : n ≤ 1000) (w : World) (h : Has w w.heap.size A (nodCs L)) (hL : ∀ e ∈ L, NodOk w e) (hs : ∀ e ∈ L, e.t.l.length ≤ 1000) :
    Calls Try.prog 23 #[.slice A n c] w (RV (PlcP L w)) := by
  have HS := Lib.hid HS
  have Hn := Lib.hid hn
  have Hh := Lib.hid h
  have HL := Lib.hid hL
  have Hs := Lib.hid hs
  have hbig : ∀ k, k ≤ n → (plAll ((L.take k).map NodE.x)).length ≤ k * 1000 := fun k hk => by
    have h1 := plAll_le ((L.take k).map NodE.x) (b := 1000) (fun x hx => by
      obtain ⟨e, he, rfl⟩ := List.mem_map.1 hx
      exact hs e (List.mem_of_mem_take he))
    rw [List.length_map, List.length_take] at h1
    have : min k L.length ≤ k := Nat.min_le_left _ _
    have := Nat.mul_le_mul_right 1000 this
    omega
  have Hbig := Lib.hid hbig
  clear hn h hL hs hbig
  go_enter Try.func23, Try.ntmps23
  go_wp2_with fail
  go_loopw [3, 10] (fun ov iv wr => ∃ (k m : Nat) (O : Option Addr) (e : Nat), k ≤ n ∧ iv = .int .i64 (k : Nat) ∧ ov = .slice O m e ∧ m ≤ k * 1000 ∧ Hid ((plAll ((L.take k).map NodE.x)).length = m) ∧ Hid (wr.ownsRow w.heap.size 57 2 (.slice O m e) m (plcCs (plAll ((L.take k).map NodE.x)))) ∧ Below w.heap.size w wr) (fun _ iv _ => n + 5 - (intOf iv).toNat)
  case atStart => exact ⟨0, 0, none, 0, by omega, rfl, rfl, by omega, Lib.hid rfl, Lib.hid ⟨rfl, .inl ⟨rfl, rfl⟩⟩, Below.refl _ _⟩
  case round =>
    obtain ⟨k, m, O, e, hk, rfl, rfl, hm1, hm, hown, hbr⟩ := hrel
    have hbs := hbr.size
    by_cases hlt : (k : Int) < (n : Int)
    · have hkL : k < L.length := by rw [Hn.out]; omega
      obtain ⟨ad, rfl, _, c0⟩ := (Hh.out.next hbr).at (nodCs_0 hkL)
      obtain ⟨ad', e', _, c1⟩ := (Hh.out.next hbr).at (nodCs_1 hkL)
      injection e' with e'
      subst e'
      have c1 := cell_off c1 (by decide)
      obtain ⟨⟨o1, o2, o3, o4⟩, o5, o6⟩ := HL.out _ (at_mem hkL)
      have hs := Hs.out _ (at_mem hkL)
      have htake := Lib.hid (take_at (l := L) (k := k) hkL)
      obtain ⟨x, hx⟩ : ∃ x, at_ L k = x := ⟨_, rfl⟩
      rw [hx] at c0 c1 o1 o2 o3 o4 o5 o6 hs htake
      obtain ⟨nm, ⟨T, tc, tl⟩⟩ := x
      simp only [] at c0 c1 o1 o2 o3 o4 o5 o6 hs
      obtain ⟨p, hp⟩ : ∃ p, tl.length = p := ⟨_, rfl⟩
      rw [hp] at c1 o1 hs
      have Hp := Lib.hid hp
      have kg : Blk (wr.alloc (.cells #[.string nm, .slice T p tc] 34)) wr.heap.size 34 #[.string nm, .slice T p tc] := Blk.new _ _ _
      have hb1 : Below wr.heap.size wr (wr.alloc (.cells #[.string nm, .slice T p tc] 34)) := (Below.refl _ _).alloc (Nat.le_refl _) _
      have hbe := bnext hbr hb1
      have HownE := Lib.hid (own_next hown.out hb1)
      have HT := Lib.hid o4
      obtain ⟨M, hM⟩ : ∃ M, plAll ((L.take k).map NodE.x) = M := ⟨_, rfl⟩
      rw [hM] at hm HownE
      have HM := Lib.hid (show plAll ((L.take (k + 1)).map NodE.x) = M ++ tl.map (fun t => (⟨t, nm⟩ : Plc)) by rw [htake.out, List.map_append, List.map_cons, List.map_nil, plAll_app1, hM]; rfl)
      have hownR := hown.out
      clear hp hx o1 o2 o3 o4 o5 o6 hown hM
      go_wp2_with fail
      obtain ⟨g, hg⟩ : ∃ g, wr.heap.size = g := ⟨_, rfl⟩
      obtain ⟨we, hwe⟩ : ∃ we, wr.alloc (.cells #[.string nm, .slice T p tc] 34) = we := ⟨_, rfl⟩
      rw [hwe] at kg hbe HownE ⊢
      rw [hg] at kg ⊢
      have hge : w.heap.size ≤ we.heap.size := hbe.size
      have hgw : w.heap.size ≤ g := by omega
      have hgne : (Value.slice O m e).ownBlock ≠ some g := fun h => by
        have h2 := (hownR.lt g h).2
        omega
      clear hwe hg hb1 c0 c1 hbs hownR hbr
      go_loopw [3, 17] (fun ov jv wq => ∃ (j q : Nat) (B : Option Addr) (f : Nat), j ≤ p ∧ jv = .int .i64 (j : Nat) ∧ ov = .slice B q f ∧ q = m + j ∧ Hid (wq.ownsRow w.heap.size 57 2 (.slice B q f) q (plcCs (M ++ (tl.take j).map (fun t => (⟨t, nm⟩ : Plc))))) ∧ Blk wq g 34 #[.string nm, .slice T p tc] ∧ Below w.heap.size w wq) (fun _ jv _ => p + 5 - (intOf jv).toNat)
      case atStart => exact ⟨0, m, O, e, by omega, rfl, rfl, rfl, Lib.hid (by rw [List.take_zero, List.map_nil, List.append_nil]; exact HownE.out), kg, hbe⟩
      case round =>
        obtain ⟨j, q, B, f, hj, rfl, rfl, rfl, hownQ, kq, hbq⟩ := hrel
        have hbqs := hbq.size
        by_cases hlt2 : (j : Int) < (p : Int)
        · have hjl : j < tl.length := by rw [Hp.out]; omega
          obtain ⟨bd, rfl, _, d1⟩ := (HT.out.next hbq).at (u64s_at hjl)
          have HQ := Lib.hid (take_app1 hjl nm M)
          obtain ⟨a1, ha1⟩ : ∃ a1, at_ tl j = a1 := ⟨_, rfl⟩
          rw [ha1] at d1 HQ
          obtain ⟨Mj, hMj⟩ : ∃ Mj, M ++ (tl.take j).map (fun t => (⟨t, nm⟩ : Plc)) = Mj := ⟨_, rfl⟩
          rw [hMj] at hownQ HQ
          have h63 : m + j + 1 ≤ maxLen := by unfold maxLen; omega
          have h16 : (m + j + 1) * 24 ≤ 140737488355328 := by omega
          have hown1 := hownQ.out
          have hneQ : some g ≠ (Value.slice B (m + j) f).ownBlock := blk_neN kq hown1 (by decide)
          clear ha1 hMj hownQ
          have y0 : wr.cell? ⟨g, 0, none⟩ = some (.string nm) := kq.cell 0
          have y1 : wr.cell? ⟨g, 1, none⟩ = some (.slice (some bd) p tc) := kq.cell 1
          go_wp2_with (at_builtin; refine wpList_append1 rfl _ _ _ rfl elPlc (v := .slice B (m + j) f) rfl hown1 rfl rfl rfl ?_ ?c1 ?c2 ?c3 ?c4; intro A5 c5 w5 hown5 hgrow5 hbel5)
          case c1 => exact ⟨rfl, rfl⟩
          case c2 => exact h16
          case c3 => exact h63
          case c4 => exact hbqs
          have kg5 : Blk w5 g 34 #[.string nm, .slice (some bd) p tc] := Blk.grown kq hgrow5 hneQ
          refine ⟨⟨j + 1, m + j + 1, A5, c5, by omega, by go_num, rfl, rfl, Lib.hid (by rw [HQ.out, plcCs_app1]; exact hown5), kg5, hbq.trans hbel5⟩, by simp [intOf]; omega⟩
        · obtain rfl : j = p := by omega
          have e2 := hownQ.out
          rw [show tl.take j = tl by rw [← Hp.out, List.take_length], ← HM.out] at e2
          have E2 := Lib.hid e2
          have hmz := Lib.hid (show (plAll ((L.take (k + 1)).map NodE.x)).length = m + j by rw [HM.out, List.length_append, List.length_map, hm.out, Hp.out])
          clear e2
          go_wp2_with fail
          refine ⟨⟨k + 1, m + j, B, f, by omega, by go_num, rfl, by omega, hmz, E2, hbq⟩, by simp [intOf]; omega⟩
    · obtain rfl : k = n := by omega
      have e1 : L.take k = L := by rw [← Hn.out, List.take_length]
      rw [e1] at hm hown
      have hm' := hm.out
      have hbS := Lib.hid (HS.out wr w.heap.size O m e _ hm.out (by omega) hown.out hbs)
      clear e1 hown
      go_wp2_with fail
      refine hbS.out.mono ?_
      rintro e9 w9 ⟨rfl, hown9, hb9⟩
      have Hown9 := Lib.hid hown9; clear hown9
      go_wp2_with fail
      go_ret
      exact RV.mk ⟨O, e, m, rfl, hm'.symm, Hown9.out, hbr.trans hb9⟩
end Go.Proofs.Ytmbpgenjjgepiaa
