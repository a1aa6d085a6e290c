/- What own of package claim makes of a claim. Conditions: the row lies in its cells. -/
import Derived.Test.YtokilodekbjpnaaSameD
import Derived.Test.YtokilodekbjpnaaCloneU64
import Derived.Test.YtokilodekbjpnaaRowKeep
namespace Go.Proofs.Ytokilodekbjpnaa
open Go.RowKit

/-- a claim of the same words, its row the call's own -/
def OwnP (v s : Int) (a : ByteArray) (l : List Nat) (w : World) (u : Value) (w' : World) : Prop :=
  ∃ A c, u = .agg #[.int .i64 v, .int .i64 s, .string a, .slice A l.length c] ∧ w'.ownsRow w.heap.size 96 1 (.slice A l.length c) l.length (u64s l) ∧ Below w.heap.size w w'
theorem Blk.far {w : World} {k : Nat} {t : TypeId} {cs : Array Value} (h : Blk w k t cs) (p : Addr) (u : Value) (hne : p.block ≠ k) : Blk (w.setCell p u) k t cs := (Below.heap_setCell w p u k (fun e => hne (by rw [e]))).trans h

set_option maxRecDepth 1000000 in
set_option maxHeartbeats 4000000 in
theorem own1_any (v s : Int) (a : ByteArray) (x : Row) (hxs : x.l.length ≤ 17592186043904) (w : World) (hx : x.ok w) :
    Calls Try.prog 53 #[.agg #[.int .i64 v, .int .i64 s, .string a, .slice x.A x.l.length x.c]] w (RV (OwnP v s a x.l w)) := by
  obtain ⟨A, c, l⟩ := x
  obtain ⟨h1, h2, h3, h4⟩ := hx
  simp only [] at h1 h2 h3 h4 hxs ⊢
  obtain ⟨n, hn⟩ : ∃ n, l.length = n := ⟨_, rfl⟩
  have Hn := Lib.hid hn
  rw [hn] at h1 hxs ⊢
  clear hn
  obtain ⟨w0, hw0⟩ : ∃ w0, ((w.alloc (.cells #[.int .i64 v, .int .i64 s, .string a, .slice A n c] 34)).alloc (.cells #[.int .i64 0, .int .i64 0, .string ⟨#[]⟩, .slice none 0 0] 34)) = w0 := ⟨_, rfl⟩
  have hb0 : Below w.heap.size w w0 := by rw [← hw0]; exact two_allocs _ _ _
  have ka : Blk w0 w.heap.size 34 #[.int .i64 v, .int .i64 s, .string a, .slice A n c] := by rw [← hw0]; exact (Blk.new _ _ _).alloc _
  have kr : Blk w0 (w.heap.size + 1) 34 #[.int .i64 0, .int .i64 0, .string ⟨#[]⟩, .slice none 0 0] := by
    rw [← hw0]
    have := Blk.new (w.alloc (.cells #[.int .i64 v, .int .i64 s, .string a, .slice A n c] 34)) 34 #[.int .i64 0, .int .i64 0, .string ⟨#[]⟩, .slice none 0 0]
    rwa [World.size_alloc] at this
  have HW := Lib.hid hw0
  clear hw0
  go_enter Try.func53, Try.ntmps53
  go_wp2_with fail
  rw [HW.out]
  refine (cloneU64_any A n c (u64s l) (by rw [u64s_len, Hn.out, Nat.mul_one]) (u64s_one l) (fun e => by have := h3 e; omega) (by omega) _ (by exact h4.next hb0)).mono ?_
  rintro e w3 ⟨u, rfl, A3, c3, rfl, hown, hb3'⟩
  have hb3 := bnext hb0 hb3'
  have ka3 := ka.next hb3'
  have kr3 := kr.next hb3'
  have p0 : w3.cell? ⟨w.heap.size, 0, none⟩ = some (.int .i64 v) := ka3.cell 0
  have p1 : w3.cell? ⟨w.heap.size, 1, none⟩ = some (.int .i64 s) := ka3.cell 1
  have p2 : w3.cell? ⟨w.heap.size, 2, none⟩ = some (.string a) := ka3.cell 2
  have p3 : w3.cell? ⟨w.heap.size, 3, none⟩ = some (.slice A n c) := ka3.cell 3
  have r0 : w3.cell? ⟨w.heap.size + 1, 0, none⟩ = some (.int .i64 0) := kr3.cell 0
  have r1 : w3.cell? ⟨w.heap.size + 1, 1, none⟩ = some (.int .i64 0) := kr3.cell 1
  have r2 : w3.cell? ⟨w.heap.size + 1, 2, none⟩ = some (.string ⟨#[]⟩) := kr3.cell 2
  have r3 : w3.cell? ⟨w.heap.size + 1, 3, none⟩ = some (.slice none 0 0) := kr3.cell 3
  have f3 := ka3.frozen 3
  have g0 := kr3.frozen 0
  have g1 := kr3.frozen 1
  have g2 := kr3.frozen 2
  have g3 := kr3.frozen 3
  go_wp2_with fail
  have hl : l.length = n := Hn.out
  have kr4 := kr3.far ⟨w.heap.size, 3, none⟩ (.slice A3 n c3) (by simp)
  have kr5 := kr4.set 0 (.int .i64 v)
  have kr6 := kr5.set 1 (.int .i64 s)
  have kr7 := kr6.set 2 (.string a)
  have hown := own_less hown (show w.heap.size ≤ w0.heap.size from hb0.size)
  refine bodyPost_ret (v := .agg #[.int .i64 v, .int .i64 s, .string a, .slice A3 n c3]) ?_ rfl (RV.mk ⟨A3, c3, by rw [hl], ?_, ?_⟩)
  · have := kr7.set 3 (.slice A3 n c3)
    have z0 := this.cell 0
    have z1 := this.cell 1
    have z2 := this.cell 2
    have z3 := this.cell 3
    simp at z0 z1 z2 z3
    simp [results, Try.results53, go_sem, *]
  · rw [hl]
    exact rk_set (rk_set (rk_set (rk_set (rk_set hown (rk_ne ka3 hown (by decide)) 3 _) (rk_ne kr3 hown (by decide)) 0 _) (rk_ne kr3 hown (by decide)) 1 _) (rk_ne kr3 hown (by decide)) 2 _) (rk_ne kr3 hown (by decide)) 3 _
  · exact ((((hb3.setCell (by simp) _).setCell (by simp) _).setCell (by simp) _).setCell (by simp) _).setCell (by simp) _
end Go.Proofs.Ytokilodekbjpnaa
