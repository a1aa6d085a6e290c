/- What Crash, View, Read, Abort and New of package hand do. Conditions: the hand lies in its blocks. -/
import Derived.Test.YtnppgocedokioaaHandAt
import Derived.Deep.RegionHeld3
namespace Go.Proofs.Ytnppgocedokioaa
open Go.RowKit

theorem rowI_nil (w : World) (base : Nat) : w.ownsRow base 2 1 (rowI none [] 0) ([] : List Int).length (i64s []) := ⟨rfl, .inl ⟨rfl, rfl⟩⟩
theorem str_ne {s : ByteArray} (h : s ≠ emptyS) : ¬ s.toList = [] ∧ s.toList.isEmpty = false := by
  have h1 : ¬ s.toList = [] := fun e => h (bytes_ext (by rw [e]; decide +kernel))
  refine ⟨h1, ?_⟩
  cases h2 : s.toList with
  | nil => exact absurd h2 h1
  | cons a l => rfl
set_option maxRecDepth 1000000 in
set_option maxHeartbeats 1000000 in
theorem hname_any (s : ByteArray) (w : World) (hs : s.size ≤ maxLen) : Calls Try.prog 43 #[.string s] w (R1 (.bool (nameB s)) (fun w' => w' = w)) := by
  unfold maxLen at hs
  by_cases h : s = emptyS
  · subst h
    go_enter Try.func43, Try.ntmps43
    unfold emptyS
    go_wp2_with fail
    go_ret
    exact R1.mk (bool_eq (by decide)) rfl
  · obtain ⟨h1, h2⟩ := str_ne h
    have e : Hid (nameB s = decide (s.size ≤ 20)) := Lib.hid (by unfold nameB; rw [decide_eq_decide]; exact ⟨fun x => x.2, fun x => ⟨h, x⟩⟩)
    go_enter Try.func43, Try.ntmps43
    go_wp2_with fail
    go_ret
    exact R1.mk (bool_eq (by rw [e.out]; first | rfl | (rw [decide_eq_decide]; omega))) rfl
set_option maxRecDepth 1000000 in
set_option maxHeartbeats 1000000 in
theorem crash_anyW (S : Nat → Prop) (g : Nat) (s : Hnd) (A N L : Option Addr) (a n l : Nat) (w : World) (hblk : Blk w g 81 (hndA s A N L a n l)) (hhas : w.ownsRow 0 2 1 (rowI A s.has a) s.has.length (i64s s.has))
    (sg : S g) (sa : ∀ k, (rowI A s.has a).ownBlock = some k → S k) (lt : ∀ k, S k → k < w.heap.size) :
    Calls Try.prog 45 #[.pointer (some ⟨g, 0, none⟩)] w (R1 (.tuple #[]) (HP S g (crashH s) w)) := by
  have c2 : w.cell? ⟨g, 2, none⟩ = some (.string s.to) := hblk.cell 2
  have c4 : w.cell? ⟨g, 4, none⟩ = some (rowI N s.next n) := hblk.cell 4
  have c5 : w.cell? ⟨g, 5, none⟩ = some (rowI L s.left l) := hblk.cell 5
  have f2 := hblk.frozen 2
  have f4 := hblk.frozen 4
  have f5 := hblk.frozen 5
  have hfin : HP S g (crashH s) w (((w.setCell ⟨g, 2, none⟩ (.string ⟨#[]⟩)).setCell ⟨g, 4, none⟩ (.slice none 0 0)).setCell ⟨g, 5, none⟩ (.slice none 0 0)) := by
    have hb := ((hblk.set 2 (.string ⟨#[]⟩)).set 4 (.slice none 0 0)).set 5 (.slice none 0 0)
    have hb2 : Blk (((w.setCell ⟨g, 2, none⟩ (.string ⟨#[]⟩)).setCell ⟨g, 4, none⟩ (.slice none 0 0)).setCell ⟨g, 5, none⟩ (.slice none 0 0)) g 81 #[.int .i64 s.ep, .string s.ow, .string ⟨#[]⟩, rowI A s.has a, .slice none 0 0, .slice none 0 0] := by simpa [hndA] using hb
    have hne := rk_neI hblk hhas (by decide)
    refine ⟨S, ⟨A, none, none, a, 0, 0, ⟨hb2, rk_setI (rk_setI (rk_setI hhas hne 2 _) hne 4 _) hne 5 _, rowI_nil _ _, Has.nil _ _ _, ⟨Nat.le_refl _, Nat.zero_le _, fun _ => rfl⟩, (fun k _ e => by cases e), (fun ad e => by cases e), sg, sa, (fun k e => by cases e), (fun ad e => by cases e), fun k hk => by have := lt k hk; simpa using this⟩⟩, fun k hk => .inl hk, ?_⟩
    exact ((Out.set w sg 2 _).trans (Out.set _ sg 4 _) (fun _ _ t => t)).trans (Out.set _ sg 5 _) (fun _ _ t => t)
  have HF := Lib.hid hfin
  clear hfin hblk hhas sa lt
  go_enter Try.func45, Try.ntmps45
  go_wp2_with fail
  exact bodyPost_end (v := .tuple #[]) (results_none rfl _ _ _) rfl (R1.mk rfl HF.out)
theorem crash_any (S : Nat → Prop) (g : Nat) (s : Hnd) (w : World) (h : HSt w S g s) :
    Calls Try.prog 45 #[.pointer (some ⟨g, 0, none⟩)] w (R1 (.tuple #[]) (HP S g (crashH s) w)) := by
  obtain ⟨A, N, L, a, n, l, h⟩ := h
  exact crash_anyW S g s A N L a n l w h.blk h.has h.sg h.sa h.lt
/-- what can be seen of a hand -/
def viewA (s : Hnd) : Array Value := #[.int .i64 s.ep, .string s.ow, .string s.to, .int .i64 s.left.length]
theorem keepV {w W : World} {B g : Nat} {x0 x1 x2 x5 : Value} (k : Below B w W) (hg : g < B) (c0 : w.cell? ⟨g, 0, none⟩ = some x0) (c1 : w.cell? ⟨g, 1, none⟩ = some x1) (c2 : w.cell? ⟨g, 2, none⟩ = some x2) (c5 : w.cell? ⟨g, 5, none⟩ = some x5) :
    W.cell? ⟨g, 0, none⟩ = some x0 ∧ W.cell? ⟨g, 1, none⟩ = some x1 ∧ W.cell? ⟨g, 2, none⟩ = some x2 ∧ W.cell? ⟨g, 5, none⟩ = some x5 :=
  ⟨(k.cell (p := ⟨g, 0, none⟩) hg).trans c0, (k.cell (p := ⟨g, 1, none⟩) hg).trans c1, (k.cell (p := ⟨g, 2, none⟩) hg).trans c2, (k.cell (p := ⟨g, 5, none⟩) hg).trans c5⟩
theorem below_setH {B b i : Nat} {a w : World} {u : Value} (hB : B ≤ b) (h : Below B a w) : Below B a (w.setCell ⟨b, i, none⟩ u) := h.setCell (p := ⟨b, i, none⟩) hB u
theorem below_drewH {B : Nat} {a w : World} (h : Below B a w) : Below B a w.drew := below_drewN h 1
set_option maxRecDepth 1000000 in
set_option maxHeartbeats 1000000 in
theorem view_any (S : Nat → Prop) (g : Nat) (s : Hnd) (w : World) (h : HSt w S g s) :
    Calls Try.prog 23 #[.pointer (some ⟨g, 0, none⟩)] w (R1 (.agg (viewA s)) (Below w.heap.size w)) := by
  obtain ⟨A, N, L, a, n, l, h⟩ := h
  have hgl := h.blk.lt
  obtain ⟨m, hm⟩ : ∃ m, s.left.length = m := ⟨_, rfl⟩
  have Hm := Lib.hid hm
  have hbx : Below w.heap.size w (w.alloc (.cells #[.int .i64 0, .string ⟨#[]⟩, .string ⟨#[]⟩, .int .i64 0] 52)) := (Below.refl _ _).alloc (Nat.le_refl _) _
  have kb : Blk (w.alloc (.cells #[.int .i64 0, .string ⟨#[]⟩, .string ⟨#[]⟩, .int .i64 0] 52)) w.heap.size 52 #[.int .i64 0, .string ⟨#[]⟩, .string ⟨#[]⟩, .int .i64 0] := Blk.new _ _ _
  have ks := h.blk.alloc (.cells #[.int .i64 0, .string ⟨#[]⟩, .string ⟨#[]⟩, .int .i64 0] 52)
  go_enter Try.func23, Try.ntmps23
  go_wp2_with fail
  obtain ⟨wb, hwb⟩ : ∃ wb, w.alloc (.cells #[.int .i64 0, .string ⟨#[]⟩, .string ⟨#[]⟩, .int .i64 0] 52) = wb := ⟨_, rfl⟩
  rw [hwb] at hbx kb ks
  rw [hwb]
  obtain ⟨b, hb⟩ : ∃ b, w.heap.size = b := ⟨_, rfl⟩
  rw [hb] at hbx kb hgl ⊢
  have Hb := Lib.hid hb
  clear hwb
  have c0 : wb.cell? ⟨g, 0, none⟩ = some (.int .i64 s.ep) := ks.cell 0
  have c1 : wb.cell? ⟨g, 1, none⟩ = some (.string s.ow) := ks.cell 1
  have c2 : wb.cell? ⟨g, 2, none⟩ = some (.string s.to) := ks.cell 2
  have c5 : wb.cell? ⟨g, 5, none⟩ = some (.slice L m l) := by rw [← hm]; exact ks.cell 5
  have r0 : wb.cell? ⟨b, 0, none⟩ = some (.int .i64 0) := kb.cell 0
  have r1 : wb.cell? ⟨b, 1, none⟩ = some (.string ⟨#[]⟩) := kb.cell 1
  have r2 : wb.cell? ⟨b, 2, none⟩ = some (.string ⟨#[]⟩) := kb.cell 2
  have r3 : wb.cell? ⟨b, 3, none⟩ = some (.int .i64 0) := kb.cell 3
  have f0 := kb.frozen 0
  have f1 := kb.frozen 1
  have f2 := kb.frozen 2
  have f3 := kb.frozen 3
  have hgl1 : g + 1 ≤ b := hgl
  clear hm h ks
  go_region_held3 (fun w' => w'.cell? ⟨g, 0, none⟩ = some (.int .i64 s.ep) ∧ w'.cell? ⟨g, 1, none⟩ = some (.string s.ow) ∧ w'.cell? ⟨g, 2, none⟩ = some (.string s.to) ∧ w'.cell? ⟨g, 5, none⟩ = some (.slice L m l)) (first | ((refine keepV (B := g + 1) (w := wb) ?_ (Nat.lt_succ_self _) c0 c1 c2 c5; (repeat' (first | with_reducible exact Below.refl _ _ | with_reducible refine below_drewH ?_ | with_reducible refine below_setH hgl1 ?_)); done)) | (trace_state; fail)) (fail)
  have k4 := (((kb.set 0 (.int .i64 s.ep)).set 1 (.string s.ow)).set 2 (.string s.to)).set 3 (.int .i64 m)
  have z0 := k4.cell 0
  have z1 := k4.cell 1
  have z2 := k4.cell 2
  have z3 := k4.cell 3
  simp at z0 z1 z2 z3
  have hf := ((((hbx.setCell (p := ⟨b, 0, none⟩) (Nat.le_refl _) (.int .i64 s.ep)).setCell (p := ⟨b, 1, none⟩) (Nat.le_refl _) (.string s.ow)).setCell (p := ⟨b, 2, none⟩) (Nat.le_refl _) (.string s.to)).setCell (p := ⟨b, 3, none⟩) (Nat.le_refl _) (.int .i64 m))
  go_wp2_with fail
  exact bodyPost_ret (v := .agg #[.int .i64 s.ep, .string s.ow, .string s.to, .int .i64 m]) (by simp [results, Try.results23, go_sem, *]) rfl ⟨by unfold viewA; rw [Hm.out], by rw [Hb.out]; exact below_drewH hf⟩
def ReadP (r : List Int × Int) (w : World) (v : Value) (w' : World) : Prop :=
  ∃ A c, v = .tuple #[.slice A r.1.length c, .int .i64 r.2] ∧ w'.ownsRow w.heap.size 2 1 (.slice A r.1.length c) r.1.length (i64s r.1) ∧ Below w.heap.size w w'
set_option maxRecDepth 1000000 in
set_option maxHeartbeats 1000000 in
theorem hread_any (S : Nat → Prop) (g : Nat) (s : Hnd) (hk : OkH s) (ep : Int) (w : World) (h : HSt w S g s) :
    Calls Try.prog 22 #[.pointer (some ⟨g, 0, none⟩), .int .i64 ep] w (RV (ReadP (readH s ep) w)) := by
  obtain ⟨A, N, L, a, n, l, h⟩ := h
  obtain ⟨m, hm⟩ : ∃ m, s.has.length = m := ⟨_, rfl⟩
  have c0 : w.cell? ⟨g, 0, none⟩ = some (.int .i64 s.ep) := h.blk.cell 0
  have c3 : w.cell? ⟨g, 3, none⟩ = some (.slice A m a) := by rw [← hm]; exact h.blk.cell 3
  obtain ⟨r, hr⟩ : ∃ r, readH s ep = r := ⟨_, rfl⟩
  rw [hr]
  have H := Lib.hid (cloneI64_any A m a (i64s s.has) (by rw [i64s_len, hm, Nat.mul_one]) (fun u hu => by simp only [i64s, List.mem_map] at hu; obtain ⟨b, _, rfl⟩ := hu; rfl) (fun e => by have := own_cap h.has e; rw [hm] at this; exact this) (by have := hk.len; omega) w (Has.of_own h.has))
  by_cases he : ep = s.ep
  · have HR := Lib.hid (show r = (s.has, 0) by rw [← hr]; unfold readH; rw [if_neg (by simpa using he)])
    have Hm := Lib.hid hm
    subst he
    clear h hr hm
    go_enter Try.func22, Try.ntmps22
    go_wp2_with fail
    refine (H.out).mono ?_
    rintro e w1 ⟨v, rfl, A3, c3', rfl, hown, hb⟩
    have HO := Lib.hid hown
    have Hv := Lib.hid (show Value.tuple #[.slice A3 m c3', .int .i64 0] = Value.tuple #[.slice A3 s.has.length c3', .int .i64 0] by rw [Hm.out])
    clear hown
    go_wp2_with fail
    go_ret2
    rw [HR.out]
    exact RV.mk ⟨A3, c3', Hv.out, by rw [Hm.out]; exact HO.out, hb⟩
  · have HR := Lib.hid (show r = ([], 10) by rw [← hr]; unfold readH; rw [if_pos he])
    have f1 : (ep != s.ep) = true := by rw [bne_iff_ne]; exact he
    clear h hr hm H
    go_enter Try.func22, Try.ntmps22
    go_wp2_with fail
    go_ret2
    rw [HR.out]
    exact RV.mk ⟨none, 0, rfl, ⟨rfl, .inl ⟨rfl, rfl⟩⟩, Below.refl _ _⟩
theorem HP.same {S : Nat → Prop} {g : Nat} {s : Hnd} {w : World} (h : HSt w S g s) : HP S g s w w := ⟨S, h, fun _ hk => .inl hk, Out.refl _ _⟩
set_option maxRecDepth 1000000 in
set_option maxHeartbeats 1000000 in
theorem habort_any (S : Nat → Prop) (g : Nat) (s : Hnd) (w : World) (h : HSt w S g s) :
    Calls Try.prog 44 #[.pointer (some ⟨g, 0, none⟩)] w (R1 (.int .i64 (abortH s).2) (HP S g (abortH s).1 w)) := by
  have c2 : w.cell? ⟨g, 2, none⟩ = some (.string s.to) := by obtain ⟨A, N, L, a, n, l, h⟩ := h; exact h.blk.cell 2
  obtain ⟨r, hr⟩ : ∃ r, abortH s = r := ⟨_, rfl⟩
  rw [hr]
  by_cases ht : s.to = emptyS
  · have HR := Lib.hid (show r = (s, 15) by rw [← hr]; unfold abortH; rw [if_pos ht])
    rw [ht] at c2
    unfold emptyS at c2
    clear hr ht
    go_enter Try.func44, Try.ntmps44
    go_wp2_with fail
    go_ret
    rw [HR.out]
    exact R1.mk rfl (HP.same h)
  · have HR := Lib.hid (show r = (crashH s, 0) by rw [← hr]; unfold abortH; rw [if_neg ht])
    obtain ⟨o1, o2⟩ := str_ne ht
    clear hr ht
    go_enter Try.func44, Try.ntmps44
    go_wp2_with fail
    refine (crash_any S g s w h).mono ?_
    rintro e w1 ⟨rfl, hp⟩
    go_wp2_with fail
    go_ret
    rw [HR.out]
    exact R1.mk rfl hp
def NewP (ow : ByteArray) (w : World) (v : Value) (w' : World) : Prop :=
  (nameB ow = true ∧ v = .tuple #[.pointer (some ⟨w.heap.size, 0, none⟩), .int .i64 0] ∧ HSt w' (fun k => k = w.heap.size) w.heap.size (newH ow) ∧ Below w.heap.size w w') ∨
  (nameB ow = false ∧ v = .tuple #[.pointer none, .int .i64 4] ∧ w' = w)
set_option maxRecDepth 1000000 in
set_option maxHeartbeats 1000000 in
theorem hnew_any (ow : ByteArray) (w : World) (hs : ow.size ≤ maxLen) : Calls Try.prog 20 #[.string ow] w (RV (NewP ow w)) := by
  have H := Lib.hid (hname_any ow w hs)
  cases hn : nameB ow with
  | false =>
    rw [hn] at H
    have HN := Lib.hid hn
    clear hn
    go_enter Try.func20, Try.ntmps20
    go_wp2_with fail
    refine (H.out).mono ?_
    rintro e w1 ⟨rfl, hw⟩
    rw [hw]
    go_wp2_with fail
    go_ret2
    exact RV.mk (.inr ⟨HN.out, rfl, rfl⟩)
  | true =>
    rw [hn] at H
    have HN := Lib.hid hn
    clear hn
    have hb : Blk (w.alloc (.cells #[.int .i64 1, .string ow, .string ⟨#[]⟩, .slice none 0 0, .slice none 0 0, .slice none 0 0] 81)) w.heap.size 81 #[.int .i64 1, .string ow, .string ⟨#[]⟩, .slice none 0 0, .slice none 0 0, .slice none 0 0] := Blk.new _ _ _
    have hst := Lib.hid (show HSt (w.alloc (.cells #[.int .i64 1, .string ow, .string ⟨#[]⟩, .slice none 0 0, .slice none 0 0, .slice none 0 0] 81)) (fun k => k = w.heap.size) w.heap.size (newH ow) from
      ⟨none, none, none, 0, 0, 0, hb, rowI_nil _ _, rowI_nil _ _, Has.nil _ _ _, ⟨Nat.le_refl _, Nat.zero_le _, fun _ => rfl⟩, (fun k e => by cases e), (fun ad e => by cases e), rfl, (fun k e => by cases e), (fun k e => by cases e), (fun ad e => by cases e), (fun k hk => by subst hk; simp)⟩)
    have hbx : Below w.heap.size w (w.alloc (.cells #[.int .i64 1, .string ow, .string ⟨#[]⟩, .slice none 0 0, .slice none 0 0, .slice none 0 0] 81)) := (Below.refl _ _).alloc (Nat.le_refl _) _
    clear hb
    go_enter Try.func20, Try.ntmps20
    go_wp2_with fail
    refine (H.out).mono ?_
    rintro e w1 ⟨rfl, hw⟩
    rw [hw]
    go_wp2_with fail
    go_ret2
    exact RV.mk (.inl ⟨HN.out, rfl, hst.out, hbx⟩)
end Go.Proofs.Ytnppgocedokioaa
