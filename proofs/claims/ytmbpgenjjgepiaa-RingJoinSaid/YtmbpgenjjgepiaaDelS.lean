/- What slices.Clone and slices.Delete of one string make of a row of the call's own. Conditions: none beyond each theorem's own hypotheses. -/
import Derived.Test.YtmbpgenjjgepiaaRgDel
import Derived.Test.YtmbpgenjjgepiaaRgOwn2
namespace Go.Proofs.Ytmbpgenjjgepiaa
open Go.RowKit Go.Sort

theorem strCs_one (l : List ByteArray) : ∀ u ∈ strCs l, u.oneCell' = true := by
  intro u hu
  unfold strCs at hu
  obtain ⟨x, _, h⟩ := List.mem_flatMap.1 hu
  simp [strC] at h
  subst h; rfl
theorem strCs_take (l : List ByteArray) (k : Nat) : (strCs l).take k = strCs (l.take k) := by
  induction l generalizing k with
  | nil => simp [strCs]
  | cons x l ih =>
    cases k with
    | zero => simp [strCs]
    | succ k =>
      rw [List.take_succ_cons, show strCs (x :: l) = .string x :: strCs l from rfl, show strCs (x :: l.take k) = .string x :: strCs (l.take k) from rfl, ← ih, List.take_succ_cons]
theorem strCs_drop (l : List ByteArray) (k : Nat) : (strCs l).drop k = strCs (l.drop k) := by
  induction l generalizing k with
  | nil => simp [strCs]
  | cons x l ih =>
    cases k with
    | zero => simp [strCs]
    | succ k =>
      rw [List.drop_succ_cons, show strCs (x :: l) = .string x :: strCs l from rfl, ← ih, List.drop_succ_cons]
theorem strCs_app (l m : List ByteArray) : strCs (l ++ m) = strCs l ++ strCs m := by simp [strCs]

set_option maxRecDepth 1000000 in
set_option maxHeartbeats 400000 in
theorem cloneS_any (A : Option Addr) (n c : Nat) (l : List ByteArray) (hl : l.length = n) (hA : A = none → n = 0 ∧ c = 0) (hmax : n * 16 ≤ 140737488355328) (w : World) (h : Has w w.heap.size A (strCs l)) :
    Calls Try.prog 21 #[.slice A n c] w (RV fun v w' => ∃ A' c', v = .slice A' n c' ∧ w'.ownsRow w.heap.size 9 1 (.slice A' n c') n (strCs l) ∧ Below w.heap.size w w') := by
  have hq := fun (w : World) (a : Option Addr) (n c n' c' : Nat) => Lib.run_eql_slice_nil (P := Try.prog) w 25 9 a n c n' c' Try.underlying25
  cases A with
  | none =>
    obtain ⟨rfl, rfl⟩ := hA rfl
    obtain rfl : l = [] := List.length_eq_zero_iff.1 hl
    go_enter Try.func21, Try.ntmps21
    go_wp2
    go_ret
    exact RV.mk ⟨none, 0, rfl, ⟨rfl, .inl ⟨rfl, rfl⟩⟩, Below.refl _ _⟩
  | some ad =>
    have Hl := Lib.hid hl; clear hl
    go_enter Try.func21, Try.ntmps21
    go_wp2_with (at_builtin; refine wpList_spread rfl _ _ _ rfl elStrR rfl (World.ownsRow_made (base := w.heap.size) w #[] 0 (Nat.le_refl _) (Nat.zero_le _) rfl) rfl ((h.keep fun p hp => World.cell?_alloc_lt w _ p hp)) ?_ ?c1 ?c2 ?c3 ?c4 ?c5; intro A' c' w1 hown hgrow hbel)
    case c1 => rw [strCs_len, Hl.out, Nat.mul_one]
    case c2 => exact strCs_one l
    case c3 => omega
    case c4 => unfold maxLen; omega
    case c5 => simp
    go_ret
    rw [Nat.zero_add, List.nil_append] at hown
    exact RV.mk ⟨A', c', rfl, hown, ((Below.refl _ _).alloc (Nat.le_refl _) _).trans hbel⟩

theorem run_clear_str (w : World) (b o c : Nat) (ty : TypeId) (h0 : (w.cell? ⟨b, o, none⟩).isSome = true) (f0 : w.frozen? ⟨b, o, none⟩ = false) :
    (Builtin.clear_ #[25] ty #[.slice (some ⟨b, o, none⟩) 1 c]).run Try.prog w = .ok (.tuple #[]) (w.setCell ⟨b, o, none⟩ (.string ⟨#[]⟩)) := by
  have hst := run_storeCells_cells (P := Try.prog) b o [Value.string ⟨#[]⟩] 0 w (by intro j hj; simp at hj; subst hj; simpa using h0) (by intro j hj; simp at hj; subst hj; simpa using f0) (by intro v hv; simp at hv; subst hv; rfl)
  simp only [Nat.add_zero] at hst
  have hzc : (Builtin.zeroCells (Value.string ⟨#[]⟩).cells 1).toList = [Value.string ⟨#[]⟩] := by kernel_rfl
  simp [Builtin.clear_, run_underlying Try.underlying25, hzc, hst, World.setCells]
def DelSP (base g n : Nat) (L : List ByteArray) (i : Nat) (w : World) (v : Value) (w' : World) : Prop :=
  ∃ c', v = .slice (some ⟨g, 0, none⟩) (n - 1) c' ∧ w'.ownsRow base 9 1 (.slice (some ⟨g, 0, none⟩) (n - 1) c') (n - 1) (strCs (L.eraseIdx i)) ∧ w.grownBy w' (some g)

set_option maxRecDepth 1000000 in
set_option maxHeartbeats 4000000 in
theorem delS_any {base n c g i j : Nat} (L : List ByteArray) (hn : L.length = n) (w : World) (hown : w.ownsRow base 9 1 (.slice (some ⟨g, 0, none⟩) n c) n (strCs L)) (hi : i < n) (hj : j = i + 1) (hn1 : n ≤ 1000000) :
    Calls Try.prog 20 #[.slice (some ⟨g, 0, none⟩) n c, .int .i64 i, .int .i64 j] w (RV (DelSP base g n L i w)) := by
  obtain ⟨hnc, hcm⟩ := own_len hown
  have hHas : Has w w.heap.size (some ⟨g, 0, none⟩) (strCs L) := Has.of_own hown
  have HO := Lib.hid hown
  have Hj := Lib.hid hj
  have Hn := Lib.hid hn
  have hij : i < j := by omega
  have hjn : j ≤ n := by omega
  have hji : ((j : Int) - (i : Int)) = 1 := by omega
  have q0 : (0 : Int) ≤ (i : Int) := by omega
  have q1 : (i : Int) ≤ (j : Int) := by omega
  have q2 : (j : Int) ≤ (n : Int) := by omega
  have q3 : (n : Int) ≤ (c : Int) := by omega
  have q4 : ¬ (i : Int) = (j : Int) := by omega
  have q4b : ((i : Int) == (j : Int)) = false := by rw [beq_eq_false_iff_ne]; exact q4
  have q5 : (0 : Int) ≤ (j : Int) := by omega
  have q6 : (j : Int) ≤ (c : Int) := by omega
  have q7 : (i : Int) ≤ (c : Int) := by omega
  have hf0 := own_front hown (k := i) (by omega)
  rw [Nat.mul_one] at hf0
  have hfront := Lib.hid hf0
  have hsrc : Hid (∀ (q : Nat) (u : Value), ((strCs L).drop j)[q]? = some u → w.cell? ((⟨g, j, none⟩ : Addr).add q) = some u) := Lib.hid (fun q u hu => by
    rw [List.getElem?_drop] at hu
    obtain ⟨ad, e1, _, e2⟩ := hHas.at hu
    injection e1 with e1
    subst e1
    rw [← e2]
    congr 1
    unfold Addr.add
    split <;> split <;> simp_all <;> omega)
  obtain ⟨p, hp⟩ : ∃ p, n - 1 = p := ⟨_, rfl⟩
  have hpe : i + (n - j) = p := by omega
  have hnp : n - p = 1 := by omega
  have hpn : p ≤ n := by omega
  clear hown hj hn hHas hf0
  by_cases hjc : j < c
  · have hcj : ¬ c = j := by omega
    go_enter Try.func20, Try.ntmps20
    go_wp2_with fail
    go_region_held_law (fun _ => True) (trivial)
      (first | (apply step_fits rfl (.tmp 22) (.tmp 25) 25 rfl elStrR (g := g) (k := i) (cap := c) (xs := (strCs L).take i) (ad := ⟨g, j, none⟩) (m := n - j) (c := c - j) (news := (strCs L).drop j) (base := base); (case hs => rfl); (case hown => exact hfront.out); (case hx => rfl); (case hl => (rw [List.length_drop, strCs_len, Hn.out]; omega)); (case hc => exact hsrc.out); (case h1 => exact fun u hu => strCs_one L u (List.mem_of_mem_drop hu)); (case hfit => omega)
                intro w5 hown5 hgrow5
                rw [hpe] at hown5 ⊢))
    obtain ⟨⟨u0, r0⟩, r1⟩ := own_room hown5 (k := p) (by omega)
    have hcl := run_clear_str w5 g p (c - p) 0 (by rw [r0]; rfl) r1
    have hF := Lib.hid (show DelSP base g n L i w (.slice (some ⟨g, 0, none⟩) p c) (w5.setCell ⟨g, p, none⟩ (.string ⟨#[]⟩)) from by
      refine ⟨c, by rw [hp], ?_, ?_⟩
      · rw [hp]
        have h9 := own_behind hown5 (k := p) (by omega) (.string ⟨#[]⟩)
        have e9 : (strCs L).take i ++ (strCs L).drop j = strCs (L.eraseIdx i) := by
          rw [strCs_take, strCs_drop, ← strCs_app, List.eraseIdx_eq_take_drop_succ, Hj.out]
        rw [e9] at h9
        exact h9
      · exact ⟨hgrow5.os, hgrow5.tape, hgrow5.output, by simp [World.setCell]; exact hgrow5.size, fun k hk hne => (Below.heap_setCell _ ⟨g, p, none⟩ _ k (fun e => hne (by rw [e]))).trans (hgrow5.block k hk hne)⟩)
    clear hgrow5 hown5 r0 r1
    go_wp2_with fail
    go_ret
    exact RV.mk hF.out
  · obtain rfl : c = j := by omega
    obtain rfl : n = c := by omega
    have hip : i = p := by omega
    have Hip := Lib.hid hip
    clear hpe hip
    go_enter Try.func20, Try.ntmps20
    go_wp2_with fail
    go_region_held_law (fun _ => True) (trivial)
      (first | (apply step_fits rfl (.tmp 22) (.tmp 25) 25 rfl elStrR (g := g) (k := i) (cap := n) (xs := (strCs L).take i) (ad := ⟨g, 0, none⟩) (m := 0) (c := 0) (news := []) (base := base); (case hs => rfl); (case hown => exact hfront.out); (case hx => rfl); (case hl => rfl); (case hc => (intro q u hu; cases hu)); (case h1 => (intro u hu; cases hu)); (case hfit => omega)
                intro w5 hown5 hgrow5
                rw [show i + 0 = p from Hip.out] at hown5 ⊢))
    obtain ⟨⟨u0, r0⟩, r1⟩ := own_room hown5 (k := p) (by omega)
    have hcl := run_clear_str w5 g p 1 0 (by rw [r0]; rfl) r1
    have hF := Lib.hid (show DelSP base g n L i w (.slice (some ⟨g, 0, none⟩) p n) (w5.setCell ⟨g, p, none⟩ (.string ⟨#[]⟩)) from by
      refine ⟨n, by rw [hp], ?_, ?_⟩
      · rw [hp]
        have h9 := own_behind hown5 (k := p) (by omega) (.string ⟨#[]⟩)
        have e9 : (strCs L).take i ++ [] = strCs (L.eraseIdx i) := by
          rw [List.append_nil, strCs_take, List.eraseIdx_eq_take_drop_succ, List.drop_of_length_le (by rw [Hn.out]; omega), List.append_nil]
        rw [e9] at h9
        exact h9
      · exact ⟨hgrow5.os, hgrow5.tape, hgrow5.output, by simp [World.setCell]; exact hgrow5.size, fun k hk hne => (Below.heap_setCell _ ⟨g, p, none⟩ _ k (fun e => hne (by rw [e]))).trans (hgrow5.block k hk hne)⟩)
    clear hgrow5 hown5 r0 r1
    go_wp2_with fail
    go_ret
    exact RV.mk hF.out
end Go.Proofs.Ytmbpgenjjgepiaa
