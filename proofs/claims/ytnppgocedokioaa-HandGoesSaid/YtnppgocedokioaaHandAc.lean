/- A move at a shard, and what the laws' helpers act and hands do. Conditions: the hand lies in its blocks. -/
import Derived.Test.YtnppgocedokioaaHandCo
import Derived.Test.YtnppgocedokioaaOpen
namespace Go.Proofs.Ytnppgocedokioaa
open Go.RowKit Go.ChangeShapes Go.WideShapes Go.Deep

theorem HP.pre {S : Nat → Prop} {g : Nat} {s : Hnd} {w w1 w' : World} (hb : Below w.heap.size w w1) (hp : HP S g s w1 w') : HP S g s w w' := by
  obtain ⟨S', h1, h2, h3⟩ := hp
  exact ⟨S', h1, fun k hk => (h2 k hk).imp id (fun h => Nat.le_trans hb.size h), (Out.of hb).trans h3 (fun _ _ t => t)⟩
def mvC (a : Mv) : List Value := [.int .i64 a.k, .int .i64 a.ep, .int .i64 a.id, .string a.to, .int .i64 a.n]
def mvCs (l : List Mv) : List Value := l.flatMap mvC
abbrev mvA (a : Mv) : Array Value := #[.int .i64 a.k, .int .i64 a.ep, .int .i64 a.id, .string a.to, .int .i64 a.n]
def Mv.ok (a : Mv) : Prop := a.to.size ≤ maxLen
theorem mvCs_at {l : List Mv} {k r : Nat} (h : k < l.length) (hr : r < 5) : (mvCs l)[k * 5 + r]? = (mvC (at_ l k))[r]? := flat_at (f := mvC) (C := 5) (fun _ => rfl) h hr
theorem Has.mvAt {w : World} {B : Nat} {A : Option Addr} {L : List Mv} (h : Has w B A (mvCs L)) {j : Nat} (hj : j < L.length) : ∃ ad, A = some ad ∧ ad.block < B ∧
    w.cell? (ad.add (j * 5)) = some (.int .i64 (at_ L j).k) ∧ w.cell? ⟨(ad.add (j * 5)).block, (ad.add (j * 5)).off + 1, none⟩ = some (.int .i64 (at_ L j).ep) ∧ w.cell? ⟨(ad.add (j * 5)).block, (ad.add (j * 5)).off + 2, none⟩ = some (.int .i64 (at_ L j).id) ∧
    w.cell? ⟨(ad.add (j * 5)).block, (ad.add (j * 5)).off + 3, none⟩ = some (.string (at_ L j).to) ∧ w.cell? ⟨(ad.add (j * 5)).block, (ad.add (j * 5)).off + 4, none⟩ = some (.int .i64 (at_ L j).n) := by
  obtain ⟨ad, rfl, had, c0⟩ := h.at (k := j * 5) (u := .int .i64 (at_ L j).k) (mvCs_at (r := 0) hj (by decide))
  have more : ∀ r u, 0 < r → r < 5 → (mvC (at_ L j))[r]? = some u → w.cell? ⟨(ad.add (j * 5)).block, (ad.add (j * 5)).off + r, none⟩ = some u := by
    intro r u h0 hr hu
    obtain ⟨ad', e, _, c1⟩ := h.at ((mvCs_at hj hr).trans hu)
    injection e with e
    subst e
    exact cell_off c1 h0
  exact ⟨_, rfl, had, c0, more 1 _ (by decide) (by decide) rfl, more 2 _ (by decide) (by decide) rfl, more 3 _ (by decide) (by decide) rfl, more 4 _ (by decide) (by decide) rfl⟩
section
variable {H : Type} {enc : TypeId × Value → H} {P : Program} {w : World} {base : Nat} {spare : Nat → Bool} {held : Bool}
theorem elem_mv {t : TypeId} {f0 f1 f2 f3 f4 : Field} (hs : P.underlying t = some (.struct #[f0, f1, f2, f3, f4])) (h0 : P.underlying f0.type = some (.int .i64)) (h1 : P.underlying f1.type = some (.int .i64)) (h2 : P.underlying f2.type = some (.int .i64)) (h3 : P.underlying f3.type = some .string) (h4 : P.underlying f4.type = some (.int .i64))
    (hone : oneCellFields P #[f0, f1, f2, f3, f4] = true) :
    ∀ n cs x, cs.length = 5 → DataW.trod enc P w base spare held n t cs = some x → ∃ el : Mv, cs = mvC el ∧ el.ok := by
  intro n cs x hl h
  obtain ⟨xs, m, _, _, _, hxl, hff⟩ := DataW.trod_struct hs h
  obtain ⟨o0, k0⟩ := hone_of hone 0 f0 rfl
  obtain ⟨o1, k1⟩ := hone_of hone 1 f1 rfl
  obtain ⟨o2, k2⟩ := hone_of hone 2 f2 rfl
  obtain ⟨o3, k3⟩ := hone_of hone 3 f3 rfl
  obtain ⟨o4, k4⟩ := hone_of hone 4 f4 rfl
  match cs, hl with
  | [v0, v1, v2, v3, v4], _ =>
    match xs, hxl with
    | [y0, y1, y2, y3, y4], _ =>
      have t0 := hff 0 f0 rfl
      have t1 := hff 1 f1 rfl
      have t2 := hff 2 f2 rfl
      have t3 := hff 3 f3 rfl
      have t4 := hff 4 f4 rfl
      rw [o0, k0] at t0
      rw [o1, k1] at t1
      rw [o2, k2] at t2
      rw [o3, k3] at t3
      rw [o4, k4] at t4
      have t0 : DataW.trod enc P w base spare held m f0.type [v0] = some y0 := t0
      have t1 : DataW.trod enc P w base spare held m f1.type [v1] = some y1 := t1
      have t2 : DataW.trod enc P w base spare held m f2.type [v2] = some y2 := t2
      have t3 : DataW.trod enc P w base spare held m f3.type [v3] = some y3 := t3
      have t4 : DataW.trod enc P w base spare held m f4.type [v4] = some y4 := t4
      obtain ⟨a0, e0, _, _⟩ := DataW.trod_int h0 t0
      obtain ⟨a1, e1, _, _⟩ := DataW.trod_int h1 t1
      obtain ⟨a2, e2, _, _⟩ := DataW.trod_int h2 t2
      obtain ⟨a3, e3, _, w3⟩ := DataW.trod_string h3 t3
      obtain ⟨a4, e4, _, _⟩ := DataW.trod_int h4 t4
      injection e0 with e0
      injection e1 with e1
      injection e2 with e2
      injection e3 with e3
      injection e4 with e4
      subst e0 e1 e2 e3 e4
      exact ⟨⟨a0, a1, a2, a3, a4⟩, rfl, w3⟩
/-- []Move -/
theorem open_moves {lt t : TypeId} {f0 f1 f2 f3 f4 : Field} (ht : P.underlying lt = some (.slice t)) (hs : P.underlying t = some (.struct #[f0, f1, f2, f3, f4])) (h0 : P.underlying f0.type = some (.int .i64)) (h1 : P.underlying f1.type = some (.int .i64)) (h2 : P.underlying f2.type = some (.int .i64)) (h3 : P.underlying f3.type = some .string) (h4 : P.underlying f4.type = some (.int .i64))
    (hone : oneCellFields P #[f0, f1, f2, f3, f4] = true) (hC : P.cellsOf t = 5) (hB : P.bytesOf t = 48)
    {r : Reach} {b0 : Nat} {v : Value} {d : DataW H} {p : List MemPlace} (hval : Value.okWide P w r b0 lt v) (h : DataW.Trod enc P w base spare held lt v d p) (hsz : ∀ n ∈ d.weights P lt, n ≤ reachBytes) :
    ∃ (A : Option Addr) (c : Nat) (l : List Mv), v = .slice A l.length c ∧ (∀ e ∈ l, e.ok) ∧ l.length ≤ c ∧ c ≤ maxLen ∧ (A = none → c = 0) ∧ Has w w.heap.size A (mvCs l) ∧ l.length * 48 ≤ 140737488351232 :=
  open_list mvC Mv.ok ht hC hB (by omega) (fun _ => rfl) (elem_mv hs h0 h1 h2 h3 h4 hone) hval h hsz
end
set_option maxRecDepth 1000000 in
set_option maxHeartbeats 4000000 in
theorem act_any (S : Nat → Prop) (g : Nat) (s : Hnd) (hk : OkH s) (a : Mv) (ha : a.ok) (w : World) (h : HSt w S g s) :
    Calls Try.prog 21 #[.pointer (some ⟨g, 0, none⟩), .agg (mvA a)] w (R1 (.int .i64 (actH s a).2) (HP S g (actH s a).1 w)) := by
  have hbx : Below w.heap.size w (w.alloc (.cells (mvA a) 47)) := (Below.refl _ _).alloc (Nat.le_refl _) _
  have kb : Blk (w.alloc (.cells (mvA a) 47)) w.heap.size 47 (mvA a) := Blk.new _ _ _
  have c0 : (w.alloc (.cells (mvA a) 47)).cell? ⟨w.heap.size, 0, none⟩ = some (.int .i64 a.k) := kb.cell 0
  have c1 : (w.alloc (.cells (mvA a) 47)).cell? ⟨w.heap.size, 1, none⟩ = some (.int .i64 a.ep) := kb.cell 1
  have c2 : (w.alloc (.cells (mvA a) 47)).cell? ⟨w.heap.size, 2, none⟩ = some (.int .i64 a.id) := kb.cell 2
  have c3 : (w.alloc (.cells (mvA a) 47)).cell? ⟨w.heap.size, 3, none⟩ = some (.string a.to) := kb.cell 3
  have c4 : (w.alloc (.cells (mvA a) 47)).cell? ⟨w.heap.size, 4, none⟩ = some (.int .i64 a.n) := kb.cell 4
  have hs := Lib.hid (h.next hbx)
  obtain ⟨r, hr⟩ : ∃ r, actH s a = r := ⟨_, rfl⟩
  rw [hr]
  unfold actH at hr
  clear kb h
  by_cases h1 : a.k = 1
  · rw [if_pos h1] at hr
    rw [h1] at c0
    have HR := Lib.hid hr
    clear hr h1
    go_enter Try.func21, Try.ntmps21
    go_wp2_with fail
    refine (write_any S g s hk a.ep a.id _ (by exact hs.out)).mono ?_
    rintro e w1 ⟨rfl, hp⟩
    have Hp := Lib.hid (HP.pre hbx hp)
    clear hp
    go_wp2_with fail
    go_ret
    rw [← HR.out]
    exact R1.mk rfl Hp.out
  rw [if_neg h1] at hr
  by_cases h2 : a.k = 2
  · rw [if_pos h2] at hr
    rw [h2] at c0
    have HR := Lib.hid hr
    clear hr h2 h1
    go_enter Try.func21, Try.ntmps21
    go_wp2_with fail
    refine (prep_any S g s hk a.to ha _ (by exact hs.out)).mono ?_
    rintro e w1 ⟨rfl, hp⟩
    have Hp := Lib.hid (HP.pre hbx hp)
    clear hp
    go_wp2_with fail
    go_ret
    rw [← HR.out]
    exact R1.mk rfl Hp.out
  rw [if_neg h2] at hr
  by_cases h3 : a.k = 3
  · rw [if_pos h3] at hr
    rw [h3] at c0
    have HR := Lib.hid hr
    clear hr h3 h2 h1
    go_enter Try.func21, Try.ntmps21
    go_wp2_with fail
    refine (hcopy_any S g s hk a.n _ (by exact hs.out)).mono ?_
    rintro e w1 ⟨v, rfl, rfl, hp⟩
    have Hp := Lib.hid (HP.pre hbx hp)
    clear hp
    go_wp2_with fail
    go_ret
    rw [← HR.out]
    exact R1.mk rfl Hp.out
  rw [if_neg h3] at hr
  by_cases h4 : a.k = 4
  · rw [if_pos h4] at hr
    rw [h4] at c0
    have HR := Lib.hid hr
    clear hr h4 h3 h2 h1
    go_enter Try.func21, Try.ntmps21
    go_wp2_with fail
    refine (cut_any S g s _ (by exact hs.out)).mono ?_
    rintro e w1 ⟨rfl, hp⟩
    have Hp := Lib.hid (HP.pre hbx hp)
    clear hp
    go_wp2_with fail
    go_ret
    rw [← HR.out]
    exact R1.mk rfl Hp.out
  rw [if_neg h4] at hr
  by_cases h5 : a.k = 5
  · rw [if_pos h5] at hr
    rw [h5] at c0
    have HR := Lib.hid hr
    clear hr h5 h4 h3 h2 h1
    go_enter Try.func21, Try.ntmps21
    go_wp2_with fail
    refine (habort_any S g s _ (by exact hs.out)).mono ?_
    rintro e w1 ⟨rfl, hp⟩
    have Hp := Lib.hid (HP.pre hbx hp)
    clear hp
    go_wp2_with fail
    go_ret
    rw [← HR.out]
    exact R1.mk rfl Hp.out
  · rw [if_neg h5] at hr
    have HR := Lib.hid hr
    obtain ⟨kk, hkk⟩ : ∃ kk, a.k = kk := ⟨_, rfl⟩
    rw [hkk] at c0 h1 h2 h3 h4 h5
    have b1 : (kk == 1) = false := by rw [beq_eq_false_iff_ne]; exact h1
    have b2 : (kk == 2) = false := by rw [beq_eq_false_iff_ne]; exact h2
    have b3 : (kk == 3) = false := by rw [beq_eq_false_iff_ne]; exact h3
    have b4 : (kk == 4) = false := by rw [beq_eq_false_iff_ne]; exact h4
    have b5 : (kk == 5) = false := by rw [beq_eq_false_iff_ne]; exact h5
    clear hr
    go_enter Try.func21, Try.ntmps21
    go_wp2_with fail
    refine (crash_any S g s _ (by exact hs.out)).mono ?_
    rintro e w1 ⟨rfl, hp⟩
    have Hp := Lib.hid (HP.pre hbx hp)
    clear hp
    go_wp2_with fail
    go_ret
    rw [← HR.out]
    exact R1.mk rfl Hp.out
set_option maxRecDepth 1000000 in
set_option maxHeartbeats 1000000 in
theorem hands_true (w : World) : Calls Try.prog 19 #[] w (R1 (.bool true) (Below w.heap.size w)) := by
  have hn : nameB ⟨#[97]⟩ = true := by decide
  go_enter Try.func19, Try.ntmps19
  go_wp2_with fail
  refine (hnew_any ⟨#[97]⟩ w (by decide)).mono ?_
  rintro e w1 ⟨v, rfl, ⟨_, rfl, hst, hb⟩ | ⟨hno, _⟩⟩
  · go_wp2_with fail
    refine (view_any _ _ _ _ hst).mono ?_
    rintro e w2 ⟨rfl, hb2⟩
    unfold viewA newH
    have hf : ∀ (x y z u : Value) (w : World), (Instr.field 52 (.agg #[x, y, z, u]) 0).run Try.prog w = .ok x w := fun _ _ _ _ _ => by kernel_rfl
    go_wp2_with fail
    go_ret
    exact R1.mk (by simp) (bnext hb hb2)
  · rw [hn] at hno; cases hno
end Go.Proofs.Ytnppgocedokioaa
