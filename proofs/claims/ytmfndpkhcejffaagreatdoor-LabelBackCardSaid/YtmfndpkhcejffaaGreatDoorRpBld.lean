/- What build of strings.Replacer makes of label's three pairs. Conditions: the pairs lie in their cells. -/
import Derived.Test.YtmfndpkhcejffaaGreatDoorRpBuild
import Derived.Test.YtmfndpkhcejffaaGreatDoorOpenS
namespace Go.Proofs.YtmfndpkhcejffaaGreatDoor
open Go.RowKit

theorem elStrL : Elem Tryz.prog 50 9 1 16 := Elem.mk' (z := .string ⟨#[]⟩) Tryz.underlying50 (by kernel_rfl) rfl (by decide)
theorem strCs_app1L (l : List ByteArray) (x : ByteArray) : strCs (l ++ [x]) = strCs l ++ (#[Value.string x] : Array Value).toList := by simp [strCs, strC]
theorem blk_neL {w : World} {g : Nat} {t : TypeId} {cs : Array Value} {base size n : Nat} {v : Value} {e : TypeId} {xs : List Value} (h : Blk w g t cs) (ho : w.ownsRow base e size v n xs) (ht : t ≠ e) : some g ≠ v.ownBlock := by
  rcases ho.2 with ⟨rfl, _⟩ | ⟨q, cap, cur, rfl, hb, hg, h1, h2, h3, h4⟩
  · intro h'; cases h'
  · intro h'
    injection h' with h'
    subst h'
    rw [Blk] at h
    rw [h] at hg
    injection hg with hg
    injection hg with _ h5
    exact ht h5
/-- the texts that are replaced, as build meets them -/
def trL (k : Nat) : List ByteArray := [(⟨#[10]⟩ : ByteArray), ⟨#[34]⟩, ⟨#[92]⟩].take k
/-- the replacer when build has taken k pairs -/
def RpSt (w : World) (h k : Nat) (W : World) : Prop :=
  ∃ (A : Option Addr) (c : Nat) (a b d : Value), Blk W h 118 (cells4 (.slice A k c) a b d) ∧ W.ownsRow w.heap.size 9 1 (.slice A k c) k (strCs (trL k)) ∧ Below w.heap.size w W ∧ w.heap.size ≤ h ∧
    (k = 0 → a = nilV) ∧ (1 ≤ k → SlB W a [92, 110]) ∧ (k ≤ 1 → b = nilV) ∧ (2 ≤ k → SlB W b [92, 34]) ∧ (k ≤ 2 → d = nilV) ∧ (3 ≤ k → SlB W d [92, 92])
theorem one_allocP (w : World) (o : Obj) : Below w.heap.size w (w.alloc o) := (Below.refl _ _).alloc (Nat.le_refl _) _
/-- behind a pair's text: the world W5 is what append made; the text is stored; then its bytes -/
theorem rp_step {w Wb W5 : World} {h : Nat} {T : TypeId} {base : Nat} {k : Nat} {A A5 : Option Addr} {c c5 : Nat} {a b d : Value} {xs xs0 : List Value} (hB : Blk Wb h 118 (cells4 (.slice A k c) a b d)) (hne : some h ≠ (Value.slice A k c).ownBlock) (hg : Wb.grownBy W5 (Value.slice A k c).ownBlock)
    (hownb : Wb.ownsRow base T 1 (.slice A k c) k xs0) (hT8 : T ≠ 5) (hown : W5.ownsRow base T 1 (.slice A5 (k + 1) c5) (k + 1) xs) (hT : 118 ≠ T) (hbel : Below w.heap.size w W5) (hwh : w.heap.size ≤ h) (s : ByteArray) :
    W5.cell? ⟨h, 256, none⟩ = some (.slice A k c) ∧ W5.frozen? ⟨h, 256, none⟩ = false ∧
    ∃ W6 W7, W5.setCell ⟨h, 256, none⟩ (.slice A5 (k + 1) c5) = W6 ∧ Lib.bytesWorld W6 5 s = W7 ∧ Blk W7 h 118 (cells4 (.slice A5 (k + 1) c5) a b d) ∧ W7.ownsRow base T 1 (.slice A5 (k + 1) c5) (k + 1) xs ∧ Below w.heap.size w W7 ∧
      W6.heap.size = W5.heap.size ∧ (∀ cp, SlB W7 (.slice (some ⟨W5.heap.size, 0, none⟩) s.size cp) (sb s)) ∧ (∀ v l, SlB Wb v l → SlB W7 v l) := by
  have h5 : Blk W5 h 118 (cells4 (.slice A k c) a b d) := hB.grown hg hne
  have e5 : W5.cell? ⟨h, 256, none⟩ = some (.slice A k c) := (h5.cell 256).trans (cells4_256 _ _ _ _)
  have hsz : (W5.setCell ⟨h, 256, none⟩ (.slice A5 (k + 1) c5)).heap.size = W5.heap.size := by simp [World.setCell]
  refine ⟨e5, h5.frozen 256, _, _, rfl, rfl, ?_, ?_, ?_, hsz, ?_, fun v l hv => ((hv.grown hownb hT8 hg).set h5 (by decide) 256 _).next (below_sb _ _)⟩
  · have h6 := h5.set 256 (.slice A5 (k + 1) c5)
    rw [cells4_tr] at h6
    exact h6.next (below_sb _ _)
  · have h6 : (W5.setCell ⟨h, 256, none⟩ (.slice A5 (k + 1) c5)).ownsRow base T 1 (.slice A5 (k + 1) c5) (k + 1) xs := ownsRow_setCell_other hown (a := ⟨h, 256, none⟩) (fun hh => blk_neL h5 hown hT hh.symm) _
    exact own_next h6 (below_sb _ _)
  · exact (hbel.setCell hwh _).trans ((below_sb _ _).mono (by rw [hsz]; exact hbel.size))
  · intro cp
    have := SlB.new (W5.setCell ⟨h, 256, none⟩ (.slice A5 (k + 1) c5)) s cp
    rw [hsz] at this
    exact this

theorem conv_byte (w : World) (x : Nat) (_hx : x < 256) : (convert 58 9 (.slice (some ⟨w.heap.size, 0, none⟩) 1 1)).run Tryz.prog (w.alloc (.cells #[.int .u8 (x : Nat)] 5)) = .ok (.string ⟨#[UInt8.ofNat x]⟩) (w.alloc (.cells #[.int .u8 (x : Nat)] 5)) := by
  have hk : Blk (w.alloc (.cells #[.int .u8 (x : Nat)] 5)) w.heap.size 5 #[.int .u8 (x : Nat)] := Blk.new _ _ _
  have := run_convert_bytes_arg (P := Tryz.prog) (w.alloc (.cells #[.int .u8 (x : Nat)] 5)) 58 5 Tryz.underlying58 Tryz.underlying5 w.heap.size 0 1 1 [(x : Int)] rfl (fun i hi => by
    obtain rfl : i = 0 := by omega
    exact hk.cell 0) 9 Tryz.underlying9
  exact this
set_option maxRecDepth 1000000 in
set_option maxHeartbeats 8000000 in
theorem rbuild_any (g o c : Nat) (w : World) (h4 : w.cell? ⟨g, 4, none⟩ = some (.slice (some ⟨o, 0, none⟩) 6 c))
    (k0 : w.cell? ⟨o, 0, none⟩ = some (.string ⟨#[92]⟩)) (k1 : w.cell? ⟨o, 1, none⟩ = some (.string ⟨#[92, 92]⟩)) (k2 : w.cell? ⟨o, 2, none⟩ = some (.string ⟨#[34]⟩))
    (k3 : w.cell? ⟨o, 3, none⟩ = some (.string ⟨#[92, 34]⟩)) (k4 : w.cell? ⟨o, 4, none⟩ = some (.string ⟨#[10]⟩)) (k5 : w.cell? ⟨o, 5, none⟩ = some (.string ⟨#[92, 110]⟩)) :
    Calls Tryz.prog 47 #[.pointer (some ⟨g, 0, none⟩)] w (R1 (.iface 119 (.pointer (some ⟨w.heap.size + 1, 0, none⟩))) (RpSt w (w.heap.size + 1) 3)) := by
  have hmk : ∀ w : World, (Instr.makeSlice 50 (.int .i64 0) (.int .i64 3)).run Tryz.prog w = .ok (.slice (some ⟨w.heap.size, 0, none⟩) 0 3) (w.alloc (.cells #[.string ⟨#[]⟩, .string ⟨#[]⟩, .string ⟨#[]⟩] 9)) := fun _ => by kernel_rfl
  obtain ⟨W0, hW0⟩ : ∃ W0, w.alloc (.cells #[.string ⟨#[]⟩, .string ⟨#[]⟩, .string ⟨#[]⟩] 9) = W0 := ⟨_, rfl⟩
  have hs0 : W0.heap.size = w.heap.size + 1 := by rw [← hW0]; simp
  have hb0 : Below w.heap.size w W0 := by rw [← hW0]; exact one_allocP w _
  have hown0 : W0.ownsRow w.heap.size 9 1 (.slice (some ⟨w.heap.size, 0, none⟩) 0 3) 0 [] := by rw [← hW0]; exact World.ownsRow_made (base := w.heap.size) w #[.string ⟨#[]⟩, .string ⟨#[]⟩, .string ⟨#[]⟩] 3 (Nat.le_refl _) (by decide) rfl
  obtain ⟨W1, hst, hB1, hb1, hs1⟩ := run_store130 W0 (.slice (some ⟨w.heap.size, 0, none⟩) 0 3) rfl
  have hown1 := own_next hown0 hb1
  have hb01 := bnext hb0 hb1
  have hst2 : (RpSt w (w.heap.size + 1) 0 W1) := ⟨some ⟨w.heap.size, 0, none⟩, 3, nilV, nilV, nilV, by rw [← hs0]; exact hB1, hown1, hb01, by omega, fun _ => rfl, fun h => absurd h (by decide), fun _ => rfl, fun h => absurd h (by decide), fun _ => rfl, fun h => absurd h (by decide)⟩
  rw [hs0] at hst
  have HW0 := Lib.hid hW0
  have Hst2 := Lib.hid hst2
  clear hW0 hb0 hown0 hB1 hb1 hs1 hown1 hb01 hst2 hs0
  go_enter Tryz.func47, Tryz.ntmps47
  go_wp2_with fail
  go_loop [4, 5] (fun b i => (b = .bool true ∧ i = .int .i64 0) ∨ (b = .bool false ∧ (i = .int .i64 2 ∨ i = .int .i64 4 ∨ i = .int .i64 6))) (fun _ i => 6 - (intOf i).toNat)
  case atStart => exact .inl ⟨rfl, rfl⟩
  case round =>
    rcases hrel with ⟨rfl, rfl⟩ | ⟨rfl, rfl | rfl | rfl⟩
    · go_wp2_with fail
      go_round
      case rel => exact .inr ⟨rfl, .inl rfl⟩
      case measure => simp [intOf]
    · go_wp2_with fail
      go_round
      case rel => exact .inr ⟨rfl, .inr (.inl rfl)⟩
      case measure => simp [intOf]
    · go_wp2_with fail
      go_round
      case rel => exact .inr ⟨rfl, .inr (.inr rfl)⟩
      case measure => simp [intOf]
    · go_wp2_with fail
      rw [HW0.out]
      rw [hst]
      go_wp2_with fail
      have hold : ∀ (W' : World), Below w.heap.size w W' → ∀ (j : Nat) (v : Value), w.cell? ⟨o, j, none⟩ = some v → W'.cell? ⟨o, j, none⟩ = some v := fun W' hb j v h => (hb.cell (p := ⟨o, j, none⟩) (World.block_lt_of_cell? w ⟨o, j, none⟩ h)).trans h
      have K0 := Lib.hid k0
      have hcv := fun (w : World) (s : ByteArray) => Lib.run_convert_string_bytes (P := Tryz.prog) w 9 58 5 s Tryz.underlying9 Tryz.underlying58 Tryz.underlying5
      have hq := fun (w : World) (a : Option Addr) (n c n' c' : Nat) => Lib.run_eql_slice_nil (P := Tryz.prog) w 58 5 a n c n' c' Tryz.underlying58
      go_loopw [12] (fun iv wr => (iv = .int .i64 4 ∧ Hid (RpSt w (w.heap.size + 1) 0 wr)) ∨ (iv = .int .i64 2 ∧ Hid (RpSt w (w.heap.size + 1) 1 wr)) ∨ (iv = .int .i64 0 ∧ Hid (RpSt w (w.heap.size + 1) 2 wr)) ∨ (iv = .int .i64 (-2) ∧ Hid (RpSt w (w.heap.size + 1) 3 wr))) (fun iv _ => (intOf iv + 10).toNat)
      case atStart => exact .inl ⟨rfl, Hst2⟩
      case round =>
        rcases hrel with ⟨rfl, hst⟩ | ⟨rfl, hst⟩ | ⟨rfl, hst⟩ | ⟨rfl, hst⟩
        · obtain ⟨A, c', a, b, d, hB, hown, hbel, hwh, q1, q2, q3, q4, q5, q6⟩ := hst.out
          have ha := q1 rfl
          have hb := q3 (by decide)
          have hd := q5 (by decide)
          subst ha hb hd
          clear q1 q2 q3 q4 q5 q6
          have hne := blk_neL hB hown (by decide)
          have hbs := hbel.size
          have i0 : wr.cell? ⟨o, 4, none⟩ = some (.string ⟨#[10]⟩) := hold wr hbel 4 _ k4
          have i1 : wr.cell? ⟨o, 5, none⟩ = some (.string ⟨#[92, 110]⟩) := hold wr hbel 5 _ k5
          have z0 : wr.cell? ⟨w.heap.size + 1, 10, none⟩ = some (.slice none 0 0) := (hB.cell 10).trans (cells4_10 _ _ _ _)
          have z1 : wr.cell? ⟨w.heap.size + 1, 256, none⟩ = some (.slice A 0 c') := (hB.cell 256).trans (cells4_256 _ _ _ _)
          have hc1 : (convert 58 9 (.slice (some ⟨wr.heap.size, 0, none⟩) 1 1)).run Tryz.prog (wr.alloc (.cells #[.int .u8 10] 5)) = .ok (.string ⟨#[10]⟩) (wr.alloc (.cells #[.int .u8 10] 5)) := conv_byte wr 10 (by decide)
          have hx : ((⟨#[10]⟩ : ByteArray)[0]'(by decide)).toNat = 10 := rfl
          have hB2 : Blk (wr.alloc (.cells #[.int .u8 10] 5)) (w.heap.size + 1) 118 (cells4 (.slice A 0 c') nilV nilV nilV) := hB.alloc _
          have hown2 : (wr.alloc (.cells #[.int .u8 10] 5)).ownsRow w.heap.size 9 1 (.slice A 0 c') 0 (strCs (trL 0)) := hown.alloc _
          have hk2 : ∀ v l, SlB wr v l → SlB (wr.alloc (.cells #[.int .u8 10] 5)) v l := fun v l hv => hv.next (one_allocP wr _)
          have hA1 : Below w.heap.size w (wr.alloc (.cells #[.int .u8 10] 5)) := hbel.alloc hbs _
          have Hst := Lib.hid hst
          clear hst
          go_wp2_with (at_builtin; refine wpList_append1 rfl _ _ _ rfl elStrL (v := .slice A 0 c') rfl hown2 (g := wr.heap.size + 1) rfl (by simp) rfl ?_ ?c1 ?c2 ?c3 ?c4; intro A5 c5 w5 hown5 hgrow5 hbel5; obtain ⟨p1, p2, W6, W7, e6, e7, hB7, hown7, hbel7, hs6, hslb7, hkeep7'⟩ := rp_step (w := w) hB2 hne hgrow5 hown2 (by decide) hown5 (by decide) (hA1.trans hbel5) (Nat.le_succ _) ⟨#[92, 110]⟩; have hkeep7 := fun v l hv => hkeep7' v l (hk2 v l hv); have yx : (Lib.bytesWorld (w5.setCell ⟨w.heap.size + 1, 256, none⟩ (.slice A5 1 c5)) 5 ⟨#[92, 110]⟩).cell? ⟨w.heap.size + 1, 10, none⟩ = some (.slice none 0 0) := by { rw [e6, e7]; exact (hB7.cell 10).trans (cells4_10 _ _ _ _) }; have fx : (Lib.bytesWorld (w5.setCell ⟨w.heap.size + 1, 256, none⟩ (.slice A5 1 c5)) 5 ⟨#[92, 110]⟩).frozen? ⟨w.heap.size + 1, 10, none⟩ = false := by { rw [e6, e7]; exact hB7.frozen 10 }; have E6 := Lib.hid e6; have E7 := Lib.hid e7; clear e6 e7 hkeep7')
          case c1 => first | (intro u hu; simp at hu; subst hu; rfl) | rfl
          case c3 => decide
          case c4 => simp; omega
          try (case c2 => decide)
          have hB8 := hB7.set 10 (.slice (some ⟨w5.heap.size, 0, none⟩) 2 (grownCap W6 2 0 5))
          rw [cells4_a] at hB8
          rw [E6.out, E7.out]
          refine ⟨.inr (.inl ⟨rfl, Lib.hid ⟨A5, c5, _, _, _, hB8, ownsRow_setCell_other hown7 (a := ⟨w.heap.size + 1, 10, none⟩) (fun hh => blk_neL hB7 hown7 (by decide) hh.symm) _, hbel7.setCell (Nat.le_succ _) _, Nat.le_succ _, (fun h => absurd h (by decide)), (fun _ => ((hslb7 _).set hB7 (by decide) 10 _)), (fun _ => rfl), (fun h => absurd h (by decide)), (fun _ => rfl), (fun h => absurd h (by decide))⟩⟩), by decide⟩
        · obtain ⟨A, c', a, b, d, hB, hown, hbel, hwh, q1, q2, q3, q4, q5, q6⟩ := hst.out
          have sa := q2 (by decide)
          have hb := q3 (by decide)
          have hd := q5 (by decide)
          subst hb hd
          clear q1 q2 q3 q4 q5 q6
          have hne := blk_neL hB hown (by decide)
          have hbs := hbel.size
          have i0 : wr.cell? ⟨o, 2, none⟩ = some (.string ⟨#[34]⟩) := hold wr hbel 2 _ k2
          have i1 : wr.cell? ⟨o, 3, none⟩ = some (.string ⟨#[92, 34]⟩) := hold wr hbel 3 _ k3
          have z0 : wr.cell? ⟨w.heap.size + 1, 34, none⟩ = some (.slice none 0 0) := (hB.cell 34).trans (cells4_34 _ _ _ _)
          have z1 : wr.cell? ⟨w.heap.size + 1, 256, none⟩ = some (.slice A 1 c') := (hB.cell 256).trans (cells4_256 _ _ _ _)
          have hc1 : (convert 58 9 (.slice (some ⟨wr.heap.size, 0, none⟩) 1 1)).run Tryz.prog (wr.alloc (.cells #[.int .u8 34] 5)) = .ok (.string ⟨#[34]⟩) (wr.alloc (.cells #[.int .u8 34] 5)) := conv_byte wr 34 (by decide)
          have hx : ((⟨#[34]⟩ : ByteArray)[0]'(by decide)).toNat = 34 := rfl
          have hB2 : Blk (wr.alloc (.cells #[.int .u8 34] 5)) (w.heap.size + 1) 118 (cells4 (.slice A 1 c') a nilV nilV) := hB.alloc _
          have hown2 : (wr.alloc (.cells #[.int .u8 34] 5)).ownsRow w.heap.size 9 1 (.slice A 1 c') 1 (strCs (trL 1)) := hown.alloc _
          have hk2 : ∀ v l, SlB wr v l → SlB (wr.alloc (.cells #[.int .u8 34] 5)) v l := fun v l hv => hv.next (one_allocP wr _)
          have hA1 : Below w.heap.size w (wr.alloc (.cells #[.int .u8 34] 5)) := hbel.alloc hbs _
          have Hst := Lib.hid hst
          clear hst
          go_wp2_with (at_builtin; refine wpList_append1 rfl _ _ _ rfl elStrL (v := .slice A 1 c') rfl hown2 (g := wr.heap.size + 1) rfl (by simp) rfl ?_ ?c1 ?c2 ?c3 ?c4; intro A5 c5 w5 hown5 hgrow5 hbel5; obtain ⟨p1, p2, W6, W7, e6, e7, hB7, hown7, hbel7, hs6, hslb7, hkeep7'⟩ := rp_step (w := w) hB2 hne hgrow5 hown2 (by decide) hown5 (by decide) (hA1.trans hbel5) (Nat.le_succ _) ⟨#[92, 34]⟩; have hkeep7 := fun v l hv => hkeep7' v l (hk2 v l hv); have sa7 := hkeep7 _ _ sa; have yx : (Lib.bytesWorld (w5.setCell ⟨w.heap.size + 1, 256, none⟩ (.slice A5 2 c5)) 5 ⟨#[92, 34]⟩).cell? ⟨w.heap.size + 1, 34, none⟩ = some (.slice none 0 0) := by { rw [e6, e7]; exact (hB7.cell 34).trans (cells4_34 _ _ _ _) }; have fx : (Lib.bytesWorld (w5.setCell ⟨w.heap.size + 1, 256, none⟩ (.slice A5 2 c5)) 5 ⟨#[92, 34]⟩).frozen? ⟨w.heap.size + 1, 34, none⟩ = false := by { rw [e6, e7]; exact hB7.frozen 34 }; have E6 := Lib.hid e6; have E7 := Lib.hid e7; clear e6 e7 hkeep7')
          case c1 => first | (intro u hu; simp at hu; subst hu; rfl) | rfl
          case c3 => decide
          case c4 => simp; omega
          try (case c2 => decide)
          have hB8 := hB7.set 34 (.slice (some ⟨w5.heap.size, 0, none⟩) 2 (grownCap W6 2 0 5))
          rw [cells4_b] at hB8
          rw [E6.out, E7.out]
          refine ⟨.inr (.inr (.inl ⟨rfl, Lib.hid ⟨A5, c5, _, _, _, hB8, ownsRow_setCell_other hown7 (a := ⟨w.heap.size + 1, 34, none⟩) (fun hh => blk_neL hB7 hown7 (by decide) hh.symm) _, hbel7.setCell (Nat.le_succ _) _, Nat.le_succ _, (fun h => absurd h (by decide)), (fun _ => (sa7.set hB7 (by decide) 34 _)), (fun h => absurd h (by decide)), (fun _ => ((hslb7 _).set hB7 (by decide) 34 _)), (fun _ => rfl), (fun h => absurd h (by decide))⟩⟩)), by decide⟩
        · obtain ⟨A, c', a, b, d, hB, hown, hbel, hwh, q1, q2, q3, q4, q5, q6⟩ := hst.out
          have sa := q2 (by decide)
          have sb' := q4 (by decide)
          have hd := q5 (by decide)
          subst hd
          clear q1 q2 q3 q4 q5 q6
          have hne := blk_neL hB hown (by decide)
          have hbs := hbel.size
          have i0 : wr.cell? ⟨o, 0, none⟩ = some (.string ⟨#[92]⟩) := hold wr hbel 0 _ k0
          have i1 : wr.cell? ⟨o, 1, none⟩ = some (.string ⟨#[92, 92]⟩) := hold wr hbel 1 _ k1
          have z0 : wr.cell? ⟨w.heap.size + 1, 92, none⟩ = some (.slice none 0 0) := (hB.cell 92).trans (cells4_92 _ _ _ _)
          have z1 : wr.cell? ⟨w.heap.size + 1, 256, none⟩ = some (.slice A 2 c') := (hB.cell 256).trans (cells4_256 _ _ _ _)
          have hc1 : (convert 58 9 (.slice (some ⟨wr.heap.size, 0, none⟩) 1 1)).run Tryz.prog (wr.alloc (.cells #[.int .u8 92] 5)) = .ok (.string ⟨#[92]⟩) (wr.alloc (.cells #[.int .u8 92] 5)) := conv_byte wr 92 (by decide)
          have hx : ((⟨#[92]⟩ : ByteArray)[0]'(by decide)).toNat = 92 := rfl
          have hB2 : Blk (wr.alloc (.cells #[.int .u8 92] 5)) (w.heap.size + 1) 118 (cells4 (.slice A 2 c') a b nilV) := hB.alloc _
          have hown2 : (wr.alloc (.cells #[.int .u8 92] 5)).ownsRow w.heap.size 9 1 (.slice A 2 c') 2 (strCs (trL 2)) := hown.alloc _
          have hk2 : ∀ v l, SlB wr v l → SlB (wr.alloc (.cells #[.int .u8 92] 5)) v l := fun v l hv => hv.next (one_allocP wr _)
          have hA1 : Below w.heap.size w (wr.alloc (.cells #[.int .u8 92] 5)) := hbel.alloc hbs _
          have Hst := Lib.hid hst
          clear hst
          go_wp2_with (at_builtin; refine wpList_append1 rfl _ _ _ rfl elStrL (v := .slice A 2 c') rfl hown2 (g := wr.heap.size + 1) rfl (by simp) rfl ?_ ?c1 ?c2 ?c3 ?c4; intro A5 c5 w5 hown5 hgrow5 hbel5; obtain ⟨p1, p2, W6, W7, e6, e7, hB7, hown7, hbel7, hs6, hslb7, hkeep7'⟩ := rp_step (w := w) hB2 hne hgrow5 hown2 (by decide) hown5 (by decide) (hA1.trans hbel5) (Nat.le_succ _) ⟨#[92, 92]⟩; have hkeep7 := fun v l hv => hkeep7' v l (hk2 v l hv); have sa7 := hkeep7 _ _ sa; have sb7 := hkeep7 _ _ sb'; have yx : (Lib.bytesWorld (w5.setCell ⟨w.heap.size + 1, 256, none⟩ (.slice A5 3 c5)) 5 ⟨#[92, 92]⟩).cell? ⟨w.heap.size + 1, 92, none⟩ = some (.slice none 0 0) := by { rw [e6, e7]; exact (hB7.cell 92).trans (cells4_92 _ _ _ _) }; have fx : (Lib.bytesWorld (w5.setCell ⟨w.heap.size + 1, 256, none⟩ (.slice A5 3 c5)) 5 ⟨#[92, 92]⟩).frozen? ⟨w.heap.size + 1, 92, none⟩ = false := by { rw [e6, e7]; exact hB7.frozen 92 }; have E6 := Lib.hid e6; have E7 := Lib.hid e7; clear e6 e7 hkeep7')
          case c1 => first | (intro u hu; simp at hu; subst hu; rfl) | rfl
          case c3 => decide
          case c4 => simp; omega
          try (case c2 => decide)
          have hB8 := hB7.set 92 (.slice (some ⟨w5.heap.size, 0, none⟩) 2 (grownCap W6 2 0 5))
          rw [cells4_d] at hB8
          rw [E6.out, E7.out]
          refine ⟨.inr (.inr (.inr ⟨rfl, Lib.hid ⟨A5, c5, _, _, _, hB8, ownsRow_setCell_other hown7 (a := ⟨w.heap.size + 1, 92, none⟩) (fun hh => blk_neL hB7 hown7 (by decide) hh.symm) _, hbel7.setCell (Nat.le_succ _) _, Nat.le_succ _, (fun h => absurd h (by decide)), (fun _ => (sa7.set hB7 (by decide) 92 _)), (fun h => absurd h (by decide)), (fun _ => (sb7.set hB7 (by decide) 92 _)), (fun h => absurd h (by decide)), (fun _ => ((hslb7 _).set hB7 (by decide) 92 _))⟩⟩)), by decide⟩
        · go_wp2_with fail
          go_ret
          exact R1.mk rfl hst.out
end Go.Proofs.YtmfndpkhcejffaaGreatDoor
