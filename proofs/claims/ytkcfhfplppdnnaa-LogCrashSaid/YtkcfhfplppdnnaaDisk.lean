/- What New, Append and Bytes of package log do with a disk. Conditions: bytes are bytes; the disk's cells are a block of their own, its bytes a row of the call's own. -/
import Derived.Test.YtkcfhfplppdnnaaFrame
import Derived.Test.YtkcfhfplppdnnaaCloneU8
import Derived.Test.YtkcfhfplppdnnaaOwn
namespace Go.Proofs.Ytkcfhfplppdnnaa
open Go.RowKit

theorem own_ne2 {w : World} {g b : Nat} {t : TypeId} {cs : Array Value} {base size n c : Nat} {e : TypeId} {xs : List Value} (h : Blk w g t cs) (ho : w.ownsRow base e size (.slice (some ⟨b, 0, none⟩) n c) n xs) (ht : t ≠ e) : b ≠ g := by
  intro hb
  subst hb
  rcases ho.2 with ⟨h', _⟩ | ⟨q, cap, cur, h', _, hg, _⟩
  · cases h'
  · injection h' with h' _
    injection h' with h'
    injection h' with h'
    subst h'
    unfold Blk at h
    rw [h] at hg
    injection hg with hg
    injection hg with _ hg
    exact ht hg
theorem own_row_ne2 {w : World} {g : Nat} {t : TypeId} {cs : Array Value} {base size n : Nat} {v : Value} {e : TypeId} {xs : List Value} (h : Blk w g t cs) (ho : w.ownsRow base e size v n xs) (ht : t ≠ e) : some g ≠ v.ownBlock := by
  rcases ho.2 with ⟨rfl, _⟩ | ⟨q, cap, cur, rfl, hb, hg, h1, h2, h3, h4⟩
  · intro h'; cases h'
  · intro h'
    injection h' with h'
    exact own_ne2 (n := n) (c := cap) h ⟨ho.1, .inr ⟨q, cap, cur, rfl, hb, hg, h1, h2, h3, h4⟩⟩ ht h'.symm
theorem own_set2 {w : World} {g : Nat} {base size n : Nat} {v : Value} {e : TypeId} {xs : List Value} (ho : w.ownsRow base e size v n xs) (hne : some g ≠ v.ownBlock) (i : Nat) (u : Value) : (w.setCell ⟨g, i, none⟩ u).ownsRow base e size v n xs := by
  refine ⟨ho.1, ?_⟩
  rcases ho.2 with h | ⟨q, cap, cur, rfl, hb, hg, h1, h2, h3, h4⟩
  · exact .inl h
  · exact .inr ⟨q, cap, cur, rfl, hb, (Below.heap_setCell w ⟨g, i, none⟩ u q (fun e => hne (by rw [e]; rfl))).trans hg, h1, h2, h3, h4⟩

/-- 'out = append(out, more...)': the row's block is as it was, or the newest -/
theorem wpList_spread2 {P : Program} {w : World} {ops : Array Oper} {rest : List Oper} {o : Oper} {a : Act} {Q : Exit → Act → World → Prop} (hgd : Region.wanted o (yielded ops a.tmps) = true) (s x : Operand) (t : TypeId)
    (ho : o.op = .call { callee := .builtin .append, args := #[s, x], argTypes := #[t, t] })
    {base size bytes : Nat} {e : TypeId} (E : Elem P t e size bytes) {v : Value} (hs : a.eval s = v) {n : Nat} {xs : List Value} (hown : w.ownsRow base e size v n xs)
    {A : Option Addr} {m c B : Nat} (hx : a.eval x = .slice A m c) {news : List Value} (hr : Has w B A news)
    (h : ∀ A' c' w', w'.ownsRow base e size (.slice A' (n + m) c') (n + m) (xs ++ news) → w.grownBy w' v.ownBlock → Below base w w' → ((Value.slice A' (n + m) c').ownBlock = v.ownBlock ∨ (Value.slice A' (n + m) c').ownBlock = some w.heap.size) → wpList P ops Q rest (a.put o.dst (.slice A' (n + m) c')) w')
    (hl : news.length = m * size) (h1 : ∀ u ∈ news, u.oneCell' = true) (hmax : (n + m) * bytes ≤ 140737488355328) (h63 : n + m ≤ maxLen) (hbase : base ≤ w.heap.size) : wpList P ops Q (o :: rest) a w := by
  refine BigFrame.wpList_want hgd fun K hK => ?_
  obtain ⟨v', w', hrun, h2, h3, h4⟩ := run_append_spread (ty := o.type) E hown (c := c) hr hl h1 hmax h63 hbase
  obtain ⟨A', c', rfl, _⟩ := own_form h2
  unfold Oper.wp execOp
  simp only [ho, resolve, invoke, builtin, Sem.run_bind, Sem.run_pure, Result.andThen_ok, List.map_toArray, List.map_cons, List.map_nil, hs, hx, hrun]
  exact hK _ _ (h A' c' w' h2 h3 (grown_below hown h3 hbase) h4)

/-- no block but g and the row is written -/
structure Mod2 (g : Nat) (row : Option Nat) (w w' : World) : Prop where
  os : w'.os = w.os
  tape : w'.tape = w.tape
  output : w'.output = w.output
  size : w.heap.size ≤ w'.heap.size
  block : ∀ k, k < w.heap.size → k ≠ g → some k ≠ row → w'.heap[k]? = w.heap[k]?
theorem Mod2.of {g : Nat} {row : Option Nat} {w w1 w2 : World} (h : Below w.heap.size w w1) (k : w1.grownBy w2 row) (u : Value) (i : Nat) : Mod2 g row w (w2.setCell ⟨g, i, none⟩ u) :=
  ⟨k.os.trans h.os, k.tape.trans h.tape, k.output.trans h.output, by simp [World.setCell]; exact Nat.le_trans h.size k.size, fun q hq hne hr =>
    (Below.heap_setCell w2 ⟨g, i, none⟩ u q hne).trans ((k.block q (Nat.lt_of_lt_of_le hq h.size) hr).trans (h.block q hq))⟩
theorem Mod2.below {g B : Nat} {row : Option Nat} {w w' : World} (h : Mod2 g row w w') (hB : B ≤ w.heap.size) (hg : B ≤ g) (hr : ∀ k, row = some k → B ≤ k) : Below B w w' :=
  ⟨h.os, h.tape, h.output, h.size, fun k hk => h.block k (by omega) (by omega) (fun e => by have := hr k e.symm; omega)⟩
theorem own_mod2 {w w' : World} {base size n g : Nat} {e : TypeId} {v : Value} {xs : List Value} {row : Option Nat} (h : w.ownsRow base e size v n xs) (hm : Mod2 g row w w') (hne : ∀ k, v.ownBlock = some k → k ≠ g ∧ some k ≠ row) : w'.ownsRow base e size v n xs := by
  refine ⟨h.1, ?_⟩
  rcases h.2 with h2 | ⟨q, cap, cur, rfl, hb, hgg, rest⟩
  · exact .inl h2
  · exact .inr ⟨q, cap, cur, rfl, hb, (hm.block q (Array.getElem?_eq_some_iff.1 hgg).1 (hne q rfl).1 (hne q rfl).2).trans hgg, rest⟩
theorem own_block {w : World} {base size n : Nat} {e : TypeId} {v : Value} {xs : List Value} (h : w.ownsRow base e size v n xs) : ∀ k, v.ownBlock = some k → base ≤ k ∧ k < w.heap.size := by
  intro k hk
  rcases h.2 with ⟨rfl, _⟩ | ⟨q, cap, cur, rfl, hb, hgg, _⟩
  · cases hk
  · injection hk with hk
    have : q = k := hk
    subst this
    exact ⟨hb, (Array.getElem?_eq_some_iff.1 hgg).1⟩

theorem ob_map {A : Option Addr} {n c k : Nat} (h : (Value.slice A n c).ownBlock = some k) : A.map Addr.block = some k := by
  cases A with
  | none => cases h
  | some a => exact h
theorem map_ob {A : Option Addr} {n c k : Nat} (h : A.map Addr.block = some k) : (Value.slice A n c).ownBlock = some k := by
  cases A with
  | none => cases h
  | some a => exact h
def DiskAt (w : World) (base g : Nat) (A : Option Addr) (c : Nat) (b : List Nat) (s : Int) : Prop :=
  Blk w g 78 #[.slice A b.length c, .int .i64 s] ∧ w.ownsRow base 5 1 (.slice A b.length c) b.length (u8s b)
def appN (b rec : List Nat) : Int := if 2000 < rec.length then 2 else if 30000 < b.length + (frameL rec).length then 9 else 0

set_option maxRecDepth 1000000 in
set_option maxHeartbeats 1000000 in
theorem dapp_no (base g : Nat) (A : Option Addr) (c : Nat) (b : List Nat) (s : Int) (hbl : b.length ≤ 30000) (R : Option Addr) (n d : Nat) (rec : List Nat) (hn : rec.length = n) (hl : rec.length ≤ maxLen) (hb : Bytes rec) (z : Int) (hz : appN b rec = z) (hz0 : z ≠ 0) (w : World) (hD : DiskAt w base g A c b s) (h : Has w w.heap.size R (u8s rec)) :
    Calls Try.prog 20 #[.pointer (some ⟨g, 0, none⟩), .slice R n d] w (R1 (.int .i64 z) (Below w.heap.size w)) := by
  by_cases h2 : 2000 < rec.length
  · have hf := Lib.hid (show frameN rec = ([], 2) by unfold frameN; rw [if_pos h2])
    obtain rfl : z = 2 := by rw [← hz]; unfold appN; rw [if_pos h2]
    clear hz
    go_enter Try.func20, Try.ntmps20
    go_wp2_with fail
    refine (frame_any R n d rec hn hl hb _ (by exact h)).mono ?_
    rw [hf.out]
    rintro e w1 ⟨v, rfl, A1, c1, rfl, ho1, hb1⟩
    clear ho1
    go_wp2_with fail
    go_ret
    exact R1.mk rfl hb1
  · have hf := Lib.hid (show frameN rec = (frameL rec, 0) by unfold frameN; rw [if_neg h2])
    have h3 : 30000 < b.length + (frameL rec).length := by
      by_cases h3 : 30000 < b.length + (frameL rec).length
      · exact h3
      · exact absurd (by rw [← hz]; unfold appN; rw [if_neg h2, if_neg h3]) hz0
    obtain rfl : z = 9 := by rw [← hz]; unfold appN; rw [if_neg h2, if_pos h3]
    have hfl : (frameL rec).length ≤ 2018 := by
      have := putL_len10 (show rec.length < 18446744073709551616 by omega)
      unfold frameL; rw [List.length_append, List.length_append, be8_len]; omega
    have h3' : (30000 : Int) < (b.length : Int) + ((frameL rec).length : Int) := by omega
    clear hz h3
    go_enter Try.func20, Try.ntmps20
    go_wp2_with fail
    refine (frame_any R n d rec hn hl hb _ (by exact h)).mono ?_
    rw [hf.out]
    rintro e w1 ⟨v, rfl, A1, c1, rfl, ho1, hb1⟩
    clear ho1
    have hk := hD.1.next hb1
    have k0 : w1.cell? ⟨g, 0, none⟩ = some (.slice A b.length c) := hk.cell 0
    go_wp2_with fail
    go_ret
    exact R1.mk rfl hb1

/-- what a disk is behind a record that it took -/
def AppP (base g : Nat) (A : Option Addr) (b : List Nat) (s : Int) (rec : List Nat) (w w' : World) : Prop :=
  ∃ A' c', DiskAt w' base g A' c' (b ++ frameL rec) s ∧ (∀ k, (A'.map Addr.block) = some k → A.map Addr.block = some k ∨ w.heap.size ≤ k) ∧ Mod2 g (A.map Addr.block) w w'

set_option maxRecDepth 1000000 in
set_option maxHeartbeats 1000000 in
theorem dapp_yes (base g : Nat) (A : Option Addr) (c : Nat) (b : List Nat) (s : Int) (R : Option Addr) (n d : Nat) (rec : List Nat) (hn : rec.length = n) (hl : rec.length ≤ maxLen) (hb : Bytes rec) (hz : appN b rec = 0) (w : World) (hbase : base ≤ w.heap.size) (hD : DiskAt w base g A c b s) (h : Has w w.heap.size R (u8s rec)) :
    Calls Try.prog 20 #[.pointer (some ⟨g, 0, none⟩), .slice R n d] w (R1 (.int .i64 0) (AppP base g A b s rec w)) := by
  have h2 : ¬ 2000 < rec.length := fun h2 => by unfold appN at hz; rw [if_pos h2] at hz; simp at hz
  have h3 : ¬ 30000 < b.length + (frameL rec).length := fun h3 => by unfold appN at hz; rw [if_neg h2, if_pos h3] at hz; simp at hz
  have hf := Lib.hid (show frameN rec = (frameL rec, 0) by unfold frameN; rw [if_neg h2])
  have h3' : (b.length : Int) + ((frameL rec).length : Int) ≤ 30000 := by omega
  have h3'' : b.length + (frameL rec).length ≤ 30000 := by omega
  clear hz h3 h2
  go_enter Try.func20, Try.ntmps20
  go_wp2_with fail
  refine (frame_any R n d rec hn hl hb _ (by exact h)).mono ?_
  rw [hf.out]
  rintro e w1 ⟨v, rfl, A1, c1, rfl, ho1, hb1⟩
  have hr1 := Lib.hid (Has.of_own ho1); clear ho1
  have hk := hD.1.next hb1
  have hown1 := own_next hD.2 hb1
  have k0 : w1.cell? ⟨g, 0, none⟩ = some (.slice A b.length c) := hk.cell 0
  have hu1 := Lib.hid (u8s_one (frameL rec))
  have hul := Lib.hid (show (u8s (frameL rec)).length = (frameL rec).length * 1 by rw [u8s_length]; omega)
  have hs1 := hb1.size
  go_wp2_with (at_builtin; refine wpList_spread2 rfl _ _ _ rfl elU8 rfl hown1 rfl (by exact hr1.out) ?_ ?k1 ?k2 ?k3 ?k4 ?k5; intro A5 c5 w4 ho5 hgrow hb4 hblk; have hB4 : Blk w4 g 78 #[.slice A b.length c, .int .i64 s] := hk.grown hgrow (own_row_ne2 hk hown1 (by decide)); have g0 := hB4.frozen 0; have g1 : w4.cell? ⟨g, 0, none⟩ = some (.slice A b.length c) := hB4.cell 0)
  case k1 => exact hul.out
  case k2 => exact hu1.out
  case k3 => omega
  case k4 => unfold maxLen; omega
  case k5 => omega
  have hgrow : w1.grownBy w4 (Value.slice A b.length c).ownBlock := hgrow
  have hblk : (Value.slice A5 (b.length + (frameL rec).length) c5).ownBlock = (Value.slice A b.length c).ownBlock ∨ (Value.slice A5 (b.length + (frameL rec).length) c5).ownBlock = some w1.heap.size := hblk
  go_ret
  refine R1.mk rfl ⟨A5, c5, ⟨?_, ?_⟩, ?_, ?_⟩
  · rw [List.length_append]; exact hB4.set 0 _
  · rw [List.length_append, u8s_appd]; exact own_set2 ho5 (own_row_ne2 hB4 ho5 (by decide)) 0 _
  · intro k hk'
    have e1 : (Value.slice A5 (b.length + (frameL rec).length) c5).ownBlock = some k := map_ob hk'
    rcases hblk with hblk | hblk
    · left
      rw [hblk] at e1
      exact ob_map e1
    · right
      rw [hblk] at e1
      injection e1 with e1
      omega
  · have hrow : (Value.slice A b.length c).ownBlock = A.map Addr.block := by cases A <;> rfl
    rw [hrow] at hgrow
    exact Mod2.of hb1 hgrow _ 0
end Go.Proofs.Ytkcfhfplppdnnaa
