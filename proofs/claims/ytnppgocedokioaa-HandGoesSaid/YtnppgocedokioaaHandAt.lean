/- A shard's hand in memory. Conditions: none beyond each theorem's own hypotheses. -/
import Derived.Test.YtnppgocedokioaaBinS
import Derived.Test.YtnppgocedokioaaInsI
import Derived.Test.YtnppgocedokioaaCloneI64
import Derived.Test.YtnppgocedokioaaCopyK
import Derived.Test.YtnppgocedokioaaNameLaw
import Derived.Deep.RegionHeldLaw
import Derived.StillTailTactics
namespace Go.Proofs.Ytnppgocedokioaa
open Go.RowKit

/-- nothing but the blocks of S was written -/
structure Out (S : Nat → Prop) (w w' : World) : Prop where
  os : w'.os = w.os
  tape : w'.tape = w.tape
  output : w'.output = w.output
  size : w.heap.size ≤ w'.heap.size
  block : ∀ k, k < w.heap.size → ¬ S k → w'.heap[k]? = w.heap[k]?
theorem Out.refl (S : Nat → Prop) (w : World) : Out S w w := ⟨rfl, rfl, rfl, Nat.le_refl _, fun _ _ _ => rfl⟩
theorem Out.trans {S T : Nat → Prop} {a b c : World} (h : Out S a b) (k : Out T b c) (hT : ∀ q, q < a.heap.size → T q → S q) : Out S a c :=
  ⟨k.os.trans h.os, k.tape.trans h.tape, k.output.trans h.output, Nat.le_trans h.size k.size, fun q hq hn => (k.block q (Nat.lt_of_lt_of_le hq h.size) (fun t => hn (hT q hq t))).trans (h.block q hq hn)⟩
theorem Out.of {S : Nat → Prop} {w w' : World} (h : Below w.heap.size w w') : Out S w w' := ⟨h.os, h.tape, h.output, h.size, fun q hq _ => h.block q hq⟩
theorem Out.grown {S : Nat → Prop} {w w' : World} {row : Option Nat} (h : w.grownBy w' row) (hr : ∀ k, row = some k → S k) : Out S w w' := ⟨h.os, h.tape, h.output, h.size, fun q hq hn => h.block q hq (fun e => hn (hr q e.symm))⟩
theorem Out.set {S : Nat → Prop} (w : World) {g : Nat} (hg : S g) (i : Nat) (u : Value) : Out S w (w.setCell ⟨g, i, none⟩ u) :=
  ⟨rfl, rfl, rfl, by simp [World.setCell], fun q hq hn => Below.heap_setCell w ⟨g, i, none⟩ u q (fun e => hn (by rw [e]; exact hg))⟩
theorem Out.below {S : Nat → Prop} {w w' : World} {B : Nat} (h : Out S w w') (hB : B ≤ w.heap.size) (hS : ∀ k, S k → B ≤ k) : Below B w w' :=
  ⟨h.os, h.tape, h.output, h.size, fun q hq => h.block q (by omega) (fun s => by have := hS q s; omega)⟩

theorem rk_neI {w : World} {g : Nat} {t : TypeId} {cs : Array Value} {base size n : Nat} {v : Value} {e : TypeId} {xs : List Value} (h : Blk w g t cs) (ho : w.ownsRow base e size v n xs) (ht : t ≠ e) : some g ≠ v.ownBlock := by
  rcases ho.2 with ⟨rfl, _⟩ | ⟨q, cap, cur, rfl, hb, hg, h1, h2, h3, h4⟩
  · intro h'; cases h'
  · intro h'
    injection h' with h'
    have h' : g = q := h'
    subst h'
    unfold Blk at h
    rw [h] at hg
    injection hg with hg
    injection hg with _ hg
    exact ht hg
theorem rk_setI {w : World} {g : Nat} {base size n : Nat} {v : Value} {e : TypeId} {xs : List Value} (ho : w.ownsRow base e size v n xs) (hne : some g ≠ v.ownBlock) (i : Nat) (u : Value) : (w.setCell ⟨g, i, none⟩ u).ownsRow base e size v n xs := by
  refine ⟨ho.1, ?_⟩
  rcases ho.2 with h | ⟨q, cap, cur, rfl, hb, hg, h1, h2, h3, h4⟩
  · exact .inl h
  · exact .inr ⟨q, cap, cur, rfl, hb, (Below.heap_setCell w ⟨g, i, none⟩ u q (fun e => hne (by rw [e]; rfl))).trans hg, h1, h2, h3, h4⟩
abbrev rowI (A : Option Addr) (l : List Int) (c : Nat) : Value := .slice A l.length c
def hndA (s : Hnd) (A N L : Option Addr) (a n l : Nat) : Array Value := #[.int .i64 s.ep, .string s.ow, .string s.to, rowI A s.has a, rowI N s.next n, rowI L s.left l]
structure HandAt (w : World) (S : Nat → Prop) (g : Nat) (s : Hnd) (A N L : Option Addr) (a n l : Nat) : Prop where
  blk : Blk w g 81 (hndA s A N L a n l)
  has : w.ownsRow 0 2 1 (rowI A s.has a) s.has.length (i64s s.has)
  nxt : w.ownsRow 0 2 1 (rowI N s.next n) s.next.length (i64s s.next)
  lft : Has w w.heap.size L (i64s s.left)
  lok : s.left.length ≤ l ∧ l ≤ maxLen ∧ (L = none → l = 0)
  ap1 : ∀ k, (rowI A s.has a).ownBlock = some k → (rowI N s.next n).ownBlock ≠ some k
  ap2 : ∀ ad, L = some ad → (rowI A s.has a).ownBlock ≠ some ad.block ∧ (rowI N s.next n).ownBlock ≠ some ad.block ∧ ad.block ≠ g
  sg : S g
  sa : ∀ k, (rowI A s.has a).ownBlock = some k → S k
  sn : ∀ k, (rowI N s.next n).ownBlock = some k → S k
  sl : ∀ ad, L = some ad → S ad.block
  lt : ∀ k, S k → k < w.heap.size
def HSt (w : World) (S : Nat → Prop) (g : Nat) (s : Hnd) : Prop := ∃ A N L a n l, HandAt w S g s A N L a n l
/-- what an operation leaves -/
def HP (S : Nat → Prop) (g : Nat) (s : Hnd) (w w' : World) : Prop := ∃ S', HSt w' S' g s ∧ (∀ k, S' k → S k ∨ w.heap.size ≤ k) ∧ Out S w w'
theorem HandAt.nextS {w w' : World} {S T : Nat → Prop} {g : Nat} {s : Hnd} {A N L : Option Addr} {a n l : Nat} (h : HandAt w S g s A N L a n l) (ho : Out T w w') (hd : ∀ k, S k → ¬ T k) : HandAt w' S g s A N L a n l := by
  have own : ∀ {v : Value} {m : Nat} {xs : List Value}, w.ownsRow 0 2 1 v m xs → (∀ k, v.ownBlock = some k → S k) → w'.ownsRow 0 2 1 v m xs := by
    intro v m xs hv hs
    refine ⟨hv.1, ?_⟩
    rcases hv.2 with h2 | ⟨q, cap, cur, rfl, hb, hgg, rest⟩
    · exact .inl h2
    · exact .inr ⟨q, cap, cur, rfl, hb, (ho.block q (Array.getElem?_eq_some_iff.1 hgg).1 (hd q (hs q rfl))).trans hgg, rest⟩
  refine ⟨(ho.block g h.blk.lt (hd g h.sg)).trans h.blk, own h.has h.sa, own h.nxt h.sn, ?_, h.lok, h.ap1, h.ap2, h.sg, h.sa, h.sn, h.sl, fun k hk => Nat.lt_of_lt_of_le (h.lt k hk) ho.size⟩
  intro hx
  obtain ⟨ad, e, hb, hc⟩ := h.lft hx
  refine ⟨ad, e, Nat.lt_of_lt_of_le hb ho.size, fun j u hu => ?_⟩
  have hblk := ho.block ad.block hb (hd _ (h.sl ad e))
  have := hc j u hu
  rw [← this]
  unfold World.cell?
  rw [add_block, hblk]
theorem HandAt.next {w w' : World} {S : Nat → Prop} {g : Nat} {s : Hnd} {A N L : Option Addr} {a n l : Nat} (h : HandAt w S g s A N L a n l) (hb : Below w.heap.size w w') : HandAt w' S g s A N L a n l :=
  h.nextS (T := fun _ => False) ⟨hb.os, hb.tape, hb.output, hb.size, fun q hq _ => hb.block q hq⟩ (fun _ _ h => h)
theorem HSt.nextS {w w' : World} {S T : Nat → Prop} {g : Nat} {s : Hnd} (h : HSt w S g s) (ho : Out T w w') (hd : ∀ k, S k → ¬ T k) : HSt w' S g s := by
  obtain ⟨A, N, L, a, n, l, h⟩ := h
  exact ⟨A, N, L, a, n, l, h.nextS ho hd⟩
theorem HSt.next {w w' : World} {S : Nat → Prop} {g : Nat} {s : Hnd} (h : HSt w S g s) (hb : Below w.heap.size w w') : HSt w' S g s :=
  h.nextS (T := fun _ => False) ⟨hb.os, hb.tape, hb.output, hb.size, fun q hq _ => hb.block q hq⟩ (fun _ _ h => h)
theorem rk_grownI {w w' : World} {base size n : Nat} {e : TypeId} {v : Value} {xs : List Value} {row : Option Nat} (h : w.ownsRow base e size v n xs) (hg : w.grownBy w' row) (hne : ∀ k, v.ownBlock = some k → some k ≠ row) : w'.ownsRow base e size v n xs := by
  refine ⟨h.1, ?_⟩
  rcases h.2 with h2 | ⟨g, cap, cur, rfl, hb, hgg, rest⟩
  · exact .inl h2
  · exact .inr ⟨g, cap, cur, rfl, hb, (hg.block g (Array.getElem?_eq_some_iff.1 hgg).1 (hne g rfl)).trans hgg, rest⟩
theorem Has.grownI {w w' : World} {A : Option Addr} {xs : List Value} {row : Option Nat} (h : Has w w.heap.size A xs) (hg : w.grownBy w' row) (hne : ∀ ad, A = some ad → row ≠ some ad.block) : Has w' w'.heap.size A xs := by
  intro hx
  obtain ⟨ad, e, hb, hc⟩ := h hx
  refine ⟨ad, e, Nat.lt_of_lt_of_le hb hg.size, fun j u hu => ?_⟩
  have hblk := hg.block ad.block hb (fun e2 => hne ad e e2.symm)
  have := hc j u hu
  rw [← this]
  unfold World.cell?
  rw [add_block, hblk]
theorem Has.setI {w : World} {A : Option Addr} {xs : List Value} (h : Has w w.heap.size A xs) {g : Nat} (hne : ∀ ad, A = some ad → ad.block ≠ g) (i : Nat) (u : Value) : Has (w.setCell ⟨g, i, none⟩ u) (w.setCell ⟨g, i, none⟩ u).heap.size A xs := by
  intro hx
  obtain ⟨ad, e, hb, hc⟩ := h hx
  refine ⟨ad, e, by simpa [World.setCell] using hb, fun j v hv => ?_⟩
  have hblk := Below.heap_setCell w ⟨g, i, none⟩ u ad.block (fun e2 => hne ad e e2)
  have := hc j v hv
  rw [← this]
  unfold World.cell?
  rw [add_block, hblk]
/-- the blocks of S, and those that are new -/
def More (S : Nat → Prop) (w w' : World) : Nat → Prop := fun k => S k ∨ (w.heap.size ≤ k ∧ k < w'.heap.size)
theorem HandAt.setHas {w w1 : World} {S : Nat → Prop} {g : Nat} {s : Hnd} {A N L : Option Addr} {a n l : Nat} (h : HandAt w S g s A N L a n l) {A' : Option Addr} {a' : Nat} {has' : List Int}
    (hown : w1.ownsRow 0 2 1 (rowI A' has' a') has'.length (i64s has')) (hg : w.grownBy w1 (rowI A s.has a).ownBlock) (hb : (rowI A' has' a').ownBlock = (rowI A s.has a).ownBlock ∨ ∀ k, (rowI A' has' a').ownBlock = some k → w.heap.size ≤ k) :
    HandAt (w1.setCell ⟨g, 3, none⟩ (rowI A' has' a')) (More S w w1) g ⟨s.ep, s.ow, s.to, has', s.next, s.left⟩ A' N L a' n l ∧ Out S w (w1.setCell ⟨g, 3, none⟩ (rowI A' has' a')) := by
  have kb := h.blk.grown hg (rk_neI h.blk h.has (by decide))
  have hneA := rk_neI kb hown (by decide)
  have hN := rk_grownI h.nxt hg (fun k hk e => h.ap1 k e.symm hk)
  have hneN := rk_neI kb hN (by decide)
  have hsz : (w1.setCell ⟨g, 3, none⟩ (rowI A' has' a')).heap.size = w1.heap.size := by simp [World.setCell]
  have hL := (Has.grownI h.lft hg (fun ad e => (h.ap2 ad e).1)).setI (fun ad e => (h.ap2 ad e).2.2) 3 (rowI A' has' a')
  have hs := hg.size
  refine ⟨⟨?_, rk_setI hown hneA 3 _, rk_setI hN hneN 3 _, hL, h.lok, ?_, ?_, .inl h.sg, ?_, fun k hk => .inl (h.sn k hk), fun ad e => .inl (h.sl ad e), ?_⟩, ?_⟩
  · have := kb.set 3 (rowI A' has' a')
    simpa [hndA] using this
  · intro k hk
    rcases hb with e | e
    · exact h.ap1 k (by rw [← e]; exact hk)
    · intro e2
      have h1 := e k hk
      have h2 := (own_blockM h.nxt k e2).2
      omega
  · intro ad e
    refine ⟨fun e2 => ?_, (h.ap2 ad e).2⟩
    rcases hb with e3 | e3
    · exact (h.ap2 ad e).1 (by rw [← e3]; exact e2)
    · have h1 := e3 _ e2
      have h2 := h.lt _ (h.sl ad e)
      omega
  · intro k hk
    rcases hb with e | e
    · exact .inl (h.sa k (by rw [← e]; exact hk))
    · exact .inr ⟨e k hk, (own_blockM hown k hk).2⟩
  · intro k hk
    rw [hsz]
    rcases hk with hk | hk
    · exact Nat.lt_of_lt_of_le (h.lt k hk) hs
    · exact hk.2
  · exact (Out.grown hg (fun k hk => h.sa k hk)).trans (Out.set w1 (S := S) h.sg 3 _) (fun _ _ t => t)
theorem HandAt.setNext {w w1 : World} {S : Nat → Prop} {g : Nat} {s : Hnd} {A N L : Option Addr} {a n l : Nat} (h : HandAt w S g s A N L a n l) {N' : Option Addr} {n' : Nat} {next' : List Int}
    (hown : w1.ownsRow 0 2 1 (rowI N' next' n') next'.length (i64s next')) (hg : w.grownBy w1 (rowI N s.next n).ownBlock) (hb : (rowI N' next' n').ownBlock = (rowI N s.next n).ownBlock ∨ ∀ k, (rowI N' next' n').ownBlock = some k → w.heap.size ≤ k) :
    HandAt (w1.setCell ⟨g, 4, none⟩ (rowI N' next' n')) (More S w w1) g ⟨s.ep, s.ow, s.to, s.has, next', s.left⟩ A N' L a n' l ∧ Out S w (w1.setCell ⟨g, 4, none⟩ (rowI N' next' n')) := by
  have kb := h.blk.grown hg (rk_neI h.blk h.nxt (by decide))
  have hneN := rk_neI kb hown (by decide)
  have hA := rk_grownI h.has hg (fun k hk e => h.ap1 k hk e.symm)
  have hneA := rk_neI kb hA (by decide)
  have hsz : (w1.setCell ⟨g, 4, none⟩ (rowI N' next' n')).heap.size = w1.heap.size := by simp [World.setCell]
  have hL := (Has.grownI h.lft hg (fun ad e => (h.ap2 ad e).2.1)).setI (fun ad e => (h.ap2 ad e).2.2) 4 (rowI N' next' n')
  have hs := hg.size
  refine ⟨⟨?_, rk_setI hA hneA 4 _, rk_setI hown hneN 4 _, hL, h.lok, ?_, ?_, .inl h.sg, fun k hk => .inl (h.sa k hk), ?_, fun ad e => .inl (h.sl ad e), ?_⟩, ?_⟩
  · have := kb.set 4 (rowI N' next' n')
    simpa [hndA] using this
  · intro k hk e2
    rcases hb with e | e
    · exact h.ap1 k hk (by rw [← e]; exact e2)
    · have h1 := e k e2
      have h2 := (own_blockM h.has k hk).2
      omega
  · intro ad e
    refine ⟨(h.ap2 ad e).1, fun e2 => ?_, (h.ap2 ad e).2.2⟩
    rcases hb with e3 | e3
    · exact (h.ap2 ad e).2.1 (by rw [← e3]; exact e2)
    · have h1 := e3 _ e2
      have h2 := h.lt _ (h.sl ad e)
      omega
  · intro k hk
    rcases hb with e | e
    · exact .inl (h.sn k (by rw [← e]; exact hk))
    · exact .inr ⟨e k hk, (own_blockM hown k hk).2⟩
  · intro k hk
    rw [hsz]
    rcases hk with hk | hk
    · exact Nat.lt_of_lt_of_le (h.lt k hk) hs
    · exact hk.2
  · exact (Out.grown hg (fun k hk => h.sn k hk)).trans (Out.set w1 (S := S) h.sg 4 _) (fun _ _ t => t)
theorem More.old {S : Nat → Prop} {w w' : World} : ∀ k, More S w w' k → S k ∨ w.heap.size ≤ k := fun _ h => h.imp id (fun h => h.1)
end Go.Proofs.Ytnppgocedokioaa
