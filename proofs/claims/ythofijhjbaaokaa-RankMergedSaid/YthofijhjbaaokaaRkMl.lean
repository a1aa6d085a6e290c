/- Two ranks side by side, one of them left alone. Conditions: none beyond each theorem's own hypotheses. -/
import Derived.Test.YthofijhjbaaokaaRkPut
import Derived.Test.YthofijhjbaaokaaRkMrg
namespace Go.Proofs.Ythofijhjbaaokaa
open Go.RowKit

theorem one_allocR (w : World) (o : Obj) : Below w.heap.size w (w.alloc o) := (Below.refl _ _).alloc (Nat.le_refl _) _
theorem two_allocsR (w : World) (o p : Obj) : Below w.heap.size w ((w.alloc o).alloc p) := ((Below.refl _ _).alloc (Nat.le_refl _) _).alloc (by simp) _
theorem own_kept {w wB : World} {lo base size n : Nat} {e : TypeId} {v : Value} {xs : List Value} (h : wB.ownsRow base e size v n xs) (hb : lo ≤ base) (hk : ∀ q t cs, lo ≤ q → Blk wB q t cs → Blk w q t cs) : w.ownsRow base e size v n xs := by
  refine ⟨h.1, ?_⟩
  rcases h.2 with h | ⟨q, cap, cur, rfl, hb', hg, rest⟩
  · exact .inl h
  · exact .inr ⟨q, cap, cur, rfl, hb', hk q _ _ (Nat.le_trans hb hb') hg, rest⟩
theorem IntOwn.kept {w wB : World} {lo : Nat} {v : Value} {r : List Int} (h : IntOwn wB lo v r) (hk : ∀ q t cs, lo ≤ q → Blk wB q t cs → Blk w q t cs) : IntOwn w lo v r := by
  obtain ⟨A, c, rfl, h1, h2⟩ := h
  exact ⟨A, c, rfl, own_kept h1 (Nat.le_refl _) hk, h2⟩
theorem RkO.kept {w wB : World} {lo : Nat} {tv : Value} {T : List Int} {B : Option Addr} {e : Nat} {L : List (List Int)} {vs : List Value} (h : RkO wB lo tv T B e L vs) (hk : ∀ q t cs, lo ≤ q → Blk wB q t cs → Blk w q t cs) : RkO w lo tv T B e L vs :=
  ⟨h.t.kept hk, own_kept h.l (Nat.le_refl _) hk, fun k hk' => by
    obtain ⟨v, h1, h2, h3⟩ := h.r k hk'
    exact ⟨v, h1, h2.kept hk, h3⟩⟩
theorem IntOwn.blk {w : World} {b : Nat} {v : Value} {r : List Int} (h : IntOwn w b v r) {q : Nat} (hq : v.ownBlock = some q) : b ≤ q ∧ ∃ t cs, Blk w q t cs := by
  obtain ⟨A, c, rfl, h1, _⟩ := h
  rcases h1.2 with ⟨h2, _⟩ | ⟨q', cap, cur, h2, hb, hg, _⟩
  · rw [h2] at hq; cases hq
  · rw [h2] at hq
    have hq : some q' = some q := hq
    injection hq with hq
    subst hq
    exact ⟨hb, _, _, hg⟩
/-- what stays as it is while b is taken into a -/
def Prot (lo : Nat) (wB : World) (p3 p4 : Nat) (c3 c4 : Array Value) : Oth := fun q t cs => (lo ≤ q ∧ Blk wB q t cs) ∨ (q = p3 ∧ t = 26 ∧ cs = c3) ∨ (q = p4 ∧ t = 26 ∧ cs = c4)
def zerosR : Array Value := #[.int .i64 0, .slice none 0 0, .slice none 0 0, .int .i64 0, .int .i64 0]
section
variable {w wB : World} {b g lo p3 p4 : Nat} {c3 c4 : Array Value} {K : Int} {tv : Value} {T : List Int} {B : Option Addr} {e : Nat} {L : List (List Int)} {vs : List Value} {N S : Int}
theorem RkS.keep (h : RkS w b g (Prot lo wB p3 p4 c3 c4) K tv T B e L vs N S) : ∀ q t cs, lo ≤ q → Blk wB q t cs → Blk w q t cs := fun q t cs h1 h2 => (h.o q t cs (.inl ⟨h1, h2⟩)).1
theorem RkS.b3 (h : RkS w b g (Prot lo wB p3 p4 c3 c4) K tv T B e L vs N S) : Blk w p3 26 c3 := (h.o _ _ _ (.inr (.inl ⟨rfl, rfl, rfl⟩))).1
theorem RkS.b4 (h : RkS w b g (Prot lo wB p3 p4 c3 c4) K tv T B e L vs N S) : Blk w p4 26 c4 := (h.o _ _ _ (.inr (.inr ⟨rfl, rfl, rfl⟩))).1
theorem RkS.apart (h : RkS w b g (Prot lo wB p3 p4 c3 c4) K tv T B e L vs N S) {v : Value} {r : List Int} (hv : IntOwn wB lo v r) : ∀ q, v.ownBlock = some q → tv.ownBlock ≠ some q := fun q hq => by
  obtain ⟨h1, t, cs, h2⟩ := hv.blk hq
  exact (h.o q t cs (.inl ⟨h1, h2⟩)).2.2.1
end

theorem below_allocR {a w : World} {o : Obj} (h : Below a.heap.size a w) : Below a.heap.size a (w.alloc o) := h.alloc h.size o
theorem Blk.drewR {w : World} {g : Nat} {t : TypeId} {cs : Array Value} (h : Blk w g t cs) : Blk w.drew g t cs := h
theorem Blk.newE (w : World) (t : TypeId) (cs : Array Value) (g : Nat) (h : g = w.heap.size) : Blk (w.alloc (.cells cs t)) g t cs := h ▸ Blk.new w t cs
theorem below_drewR {B : Nat} {a w : World} (h : Below B a w) : Below B a w.drew := below_drewN h 1
/-- the cells of the two boxes -/
def TenC (b : Nat) (x0 x1 x2 x3 x4 y0 y1 y2 y3 y4 : Value) (W : World) : Prop :=
  W.cell? ⟨b, 0, none⟩ = some x0 ∧ W.cell? ⟨b, 1, none⟩ = some x1 ∧ W.cell? ⟨b, 2, none⟩ = some x2 ∧ W.cell? ⟨b, 3, none⟩ = some x3 ∧ W.cell? ⟨b, 4, none⟩ = some x4 ∧
  W.cell? ⟨b + 1, 0, none⟩ = some y0 ∧ W.cell? ⟨b + 1, 1, none⟩ = some y1 ∧ W.cell? ⟨b + 1, 2, none⟩ = some y2 ∧ W.cell? ⟨b + 1, 3, none⟩ = some y3 ∧ W.cell? ⟨b + 1, 4, none⟩ = some y4 ∧
  W.frozen? ⟨b + 1, 0, none⟩ = false ∧ W.frozen? ⟨b + 1, 1, none⟩ = false ∧ W.frozen? ⟨b + 1, 2, none⟩ = false ∧ W.frozen? ⟨b + 1, 3, none⟩ = false ∧ W.frozen? ⟨b + 1, 4, none⟩ = false
theorem ten_of {w W : World} {b : Nat} {x0 x1 x2 x3 x4 y0 y1 y2 y3 y4 : Value} (kA : Blk w b 26 #[x0, x1, x2, x3, x4]) (kB : Blk w (b + 1) 26 #[y0, y1, y2, y3, y4]) (h : Below w.heap.size w W) : TenC b x0 x1 x2 x3 x4 y0 y1 y2 y3 y4 W := by
  have hA := kA.next h
  have hB := kB.next h
  exact ⟨hA.cell 0, hA.cell 1, hA.cell 2, hA.cell 3, hA.cell 4, hB.cell 0, hB.cell 1, hB.cell 2, hB.cell 3, hB.cell 4, hB.frozen 0, hB.frozen 1, hB.frozen 2, hB.frozen 3, hB.frozen 4⟩

theorem Blk.nb5 {w : World} {g q : Nat} {t : TypeId} {cs : Array Value} (h : Blk w q t cs) (hne : q ≠ g) (x0 x1 x2 x3 x4 : Value) :
    Blk (((((w.setCell ⟨g, 0, none⟩ x0).setCell ⟨g, 1, none⟩ x1).setCell ⟨g, 2, none⟩ x2).setCell ⟨g, 3, none⟩ x3).setCell ⟨g, 4, none⟩ x4) q t cs := ((((h.nb hne 0 x0).nb hne 1 x1).nb hne 2 x2).nb hne 3 x3).nb hne 4 x4
section
variable {w wq wB X : World} {b g lo loA : Nat} {K N S N' S' : Int} {tvA tvB : Value} {T U : List Int} {BA BB : Option Addr} {eA eB : Nat} {L M : List (List Int)} {vsA vsB : List Value}
theorem mrg_state (hk3 : Blk X (b + 1) 26 #[.int .i64 K, tvB, .slice BB M.length eB, .int .i64 N', .int .i64 S']) (hkg : Blk X g 26 #[.int .i64 K, tvA, .slice BA L.length eA, .int .i64 N, .int .i64 S])
    (hk4 : Blk X (b + 2) 26 zerosR) (hkeep : ∀ q t cs, q ≠ g → q ≠ b + 1 → Blk wB q t cs → Blk X q t cs)
    (hOA : RkO wq loA tvA T BA eA L vsA) (hqB : Below wq.heap.size wq wB) (hlo : wq.heap.size ≤ lo) (hbA : b + 2 < loA) (hqA : loA ≤ wq.heap.size) (hg3 : b + 2 < g) (hgA : g < loA ∨ wq.heap.size ≤ g) (hgB : g < lo ∨ wB.heap.size ≤ g) :
    RkS X b g (Prot lo wB (b + 1) (b + 2) #[.int .i64 K, tvB, .slice BB M.length eB, .int .i64 N', .int .i64 S'] zerosR) K tvA T BA eA L vsA N S := by
  have hX : RkO X loA tvA T BA eA L vsA := hOA.kept (fun q t cs h1 h2 => hkeep q t cs (fun e => by have := h2.lt; omega) (by omega) (h2.next hqB))
  have htq : ∀ q, tvA.ownBlock = some q → loA ≤ q ∧ q < wq.heap.size := fun q hq => hOA.t.lt hq
  have hlq : ∀ q, (Value.slice BA L.length eA).ownBlock = some q → loA ≤ q ∧ q < wq.heap.size := fun q hq => hOA.l.lt q hq
  refine (hX.less (show b ≤ loA by omega)).s hkg (by omega) (fun q t cs ho => ?_)
  rcases ho with ⟨h1, h2⟩ | ⟨rfl, rfl, rfl⟩ | ⟨rfl, rfl, rfl⟩
  · have h3 := h2.lt
    exact ⟨hkeep q t cs (by omega) (by omega) h2, by omega, fun e => by have := htq q e; omega, fun e => by have := hlq q e; omega⟩
  · exact ⟨hk3, by omega, fun e => by have := htq _ e; omega, fun e => by have := hlq _ e; omega⟩
  · exact ⟨hk4, by omega, fun e => by have := htq _ e; omega, fun e => by have := hlq _ e; omega⟩
theorem mrg_new {z0 z1 z2 z3 z4 : Value} (k3 : Blk wB (b + 1) 26 #[z0, z1, z2, z3, z4]) (k4 : Blk wB (b + 2) 26 zerosR)
    (hOA : RkO wq loA tvA T BA eA L vsA) (hqB : Below wq.heap.size wq wB) (hlo : wq.heap.size ≤ lo) (hbA : b + 2 < loA) (hqA : loA ≤ wq.heap.size) (hBw : Below b w wB) :
    RkS ((((((wB.setCell ⟨b + 1, 0, none⟩ (.int .i64 K)).setCell ⟨b + 1, 1, none⟩ tvB).setCell ⟨b + 1, 2, none⟩ (.slice BB M.length eB)).setCell ⟨b + 1, 3, none⟩ (.int .i64 N')).setCell ⟨b + 1, 4, none⟩ (.int .i64 S')).alloc (.cells #[.int .i64 K, tvA, .slice BA L.length eA, .int .i64 N, .int .i64 S] 26))
      b wB.heap.size (Prot lo wB (b + 1) (b + 2) #[.int .i64 K, tvB, .slice BB M.length eB, .int .i64 N', .int .i64 S'] zerosR) K tvA T BA eA L vsA N S ∧
    Below b w ((((((wB.setCell ⟨b + 1, 0, none⟩ (.int .i64 K)).setCell ⟨b + 1, 1, none⟩ tvB).setCell ⟨b + 1, 2, none⟩ (.slice BB M.length eB)).setCell ⟨b + 1, 3, none⟩ (.int .i64 N')).setCell ⟨b + 1, 4, none⟩ (.int .i64 S')).alloc (.cells #[.int .i64 K, tvA, .slice BA L.length eA, .int .i64 N, .int .i64 S] 26)) := by
  have hB5 := below_put5 hBw (show b ≤ b + 1 by omega) (.int .i64 K) tvB (.slice BB M.length eB) (.int .i64 N') (.int .i64 S')
  have hlt := k4.lt
  refine ⟨mrg_state (wq := wq) (loA := loA) ((k3.put5 _ _ _ _ _).alloc _) (Blk.newE _ _ _ _ (by simp [World.setCell])) ((k4.nb5 (by omega) _ _ _ _ _).alloc _) (fun q t cs _ h2 h3 => (h3.nb5 h2 _ _ _ _ _).alloc _) hOA hqB hlo hbA hqA (by omega) (.inr hqB.size) (.inr (Nat.le_refl _)), hB5.alloc (by simp [World.setCell]; omega) _⟩
theorem mrg_old {z0 z1 z2 z3 z4 v0 v1 v2 v3 v4 : Value} (kz : Blk wB g 26 #[v0, v1, v2, v3, v4]) (k3 : Blk wB (b + 1) 26 #[z0, z1, z2, z3, z4]) (k4 : Blk wB (b + 2) 26 zerosR)
    (hOA : RkO wq loA tvA T BA eA L vsA) (hqB : Below wq.heap.size wq wB) (hlo : wq.heap.size ≤ lo) (hbA : b + 2 < loA) (hqA : loA ≤ wq.heap.size) (hg3 : b + 2 < g) (hgA : g < loA ∨ wq.heap.size ≤ g) (hgB : g < lo) (hBw : Below b w wB) :
    RkS ((((((((((wB.setCell ⟨g, 0, none⟩ (.int .i64 K)).setCell ⟨g, 1, none⟩ tvA).setCell ⟨g, 2, none⟩ (.slice BA L.length eA)).setCell ⟨g, 3, none⟩ (.int .i64 N)).setCell ⟨g, 4, none⟩ (.int .i64 S)).setCell ⟨b + 1, 0, none⟩ (.int .i64 K)).setCell ⟨b + 1, 1, none⟩ tvB).setCell ⟨b + 1, 2, none⟩ (.slice BB M.length eB)).setCell ⟨b + 1, 3, none⟩ (.int .i64 N')).setCell ⟨b + 1, 4, none⟩ (.int .i64 S'))
      b g (Prot lo wB (b + 1) (b + 2) #[.int .i64 K, tvB, .slice BB M.length eB, .int .i64 N', .int .i64 S'] zerosR) K tvA T BA eA L vsA N S ∧
    Below b w ((((((((((wB.setCell ⟨g, 0, none⟩ (.int .i64 K)).setCell ⟨g, 1, none⟩ tvA).setCell ⟨g, 2, none⟩ (.slice BA L.length eA)).setCell ⟨g, 3, none⟩ (.int .i64 N)).setCell ⟨g, 4, none⟩ (.int .i64 S)).setCell ⟨b + 1, 0, none⟩ (.int .i64 K)).setCell ⟨b + 1, 1, none⟩ tvB).setCell ⟨b + 1, 2, none⟩ (.slice BB M.length eB)).setCell ⟨b + 1, 3, none⟩ (.int .i64 N')).setCell ⟨b + 1, 4, none⟩ (.int .i64 S')) :=
  ⟨mrg_state (wq := wq) (loA := loA) ((k3.nb5 (by omega) _ _ _ _ _).put5 _ _ _ _ _) ((kz.put5 _ _ _ _ _).nb5 (by omega) _ _ _ _ _) ((k4.nb5 (by omega) _ _ _ _ _).nb5 (by omega) _ _ _ _ _) (fun q t cs h1 h2 h3 => (h3.nb5 h1 _ _ _ _ _).nb5 h2 _ _ _ _ _) hOA hqB hlo hbA hqA hg3 hgA (.inl hgB),
    below_put5 (below_put5 hBw (by omega) _ _ _ _ _) (by omega) _ _ _ _ _⟩
end
end Go.Proofs.Ythofijhjbaaokaa
