/- Texts of the proof of ExprOne, joined (by merge.py). Conditions: each theorem's own hypotheses. -/
import Derived.Test.YtnicbhmeigpjkaaGreatDoorExprOneP0
import Derived.Test.YtnicbhmeigpjkaaGreatDoorExprOneP17
import Derived.Test.YtnicbhmeigpjkaaGreatDoorExprOneP22
namespace Go.Proofs.YtnicbhmeigpjkaaGreatDoor
open Go.RowKit

/-! ### without addresses -/
def bx (k n w : Int) (m : List Mt) (b : List ByteArray) (x : List ExE) : ExE := .mk k n w none 0 m none 0 b none 0 x
mutual
def ExE.bare : ExE → ExE | .mk k n w _ _ m _ _ b _ _ x => .mk k n w none 0 m none 0 b none 0 (ExE.bareL x)
def ExE.bareL : List ExE → List ExE | [] => [] | y :: ys => y.bare :: ExE.bareL ys
end
theorem ExE.bare_eq (e : ExE) : e.bare = bx e.kind e.n e.w e.m e.b (ExE.bareL e.x) := by cases e; simp only [ExE.bare, ExE.kind, ExE.n, ExE.w, ExE.m, ExE.b, ExE.x, bx]
theorem ExE.bareL_map (x : List ExE) : ExE.bareL x = x.map ExE.bare := by
  induction x with
  | nil => simp only [ExE.bareL, List.map_nil]
  | cons y x ih => simp only [ExE.bareL, List.map_cons, ih]
theorem ExE.bareL_len (x : List ExE) : (ExE.bareL x).length = x.length := by rw [ExE.bareL_map, List.length_map]
theorem cntL_congr {x : List ExE} (h : ∀ y ∈ x, y.bare.cnt = y.cnt) : ExE.cntL (ExE.bareL x) = ExE.cntL x := by
  induction x with
  | nil => simp only [ExE.bareL]
  | cons y x ih => simp only [ExE.bareL, ExE.cntL, h y List.mem_cons_self, ih (fun z hz => h z (List.mem_cons_of_mem _ hz))]
theorem bare_cnt : ∀ e : ExE, e.bare.cnt = e.cnt := ExE.induct fun e ih => by
  cases e with | mk k n w ma mc m ba bc b xa xc x =>
  simp only [ExE.bare, ExE.cnt]
  rw [cntL_congr (x := x) ih]
theorem chkXL_congr {x : List ExE} (h : ∀ y ∈ x, y.bare.chk = y.chk) : ExE.chkL (ExE.bareL x) = ExE.chkL x := by
  induction x with
  | nil => simp only [ExE.bareL]
  | cons y x ih => simp only [ExE.bareL, ExE.chkL, h y List.mem_cons_self, ih (fun z hz => h z (List.mem_cons_of_mem _ hz))]
theorem bare_chk : ∀ e : ExE, e.bare.chk = e.chk := ExE.induct fun e ih => by
  cases e with | mk k n w ma mc m ba bc b xa xc x =>
  simp only [ExE.bare, ExE.chk]
  rw [chkXL_congr (x := x) ih, ExE.bareL_len]
theorem bare_chkT (e : ExE) : e.bare.chkT = e.chkT := by unfold ExE.chkT; rw [bare_cnt, bare_chk]
theorem evL_congr {all : List (List Lab × List Smp)} {now : Int} {x : List ExE} (h : ∀ y ∈ x, y.bare.ev all now = y.ev all now) : ExE.evL all now (ExE.bareL x) = ExE.evL all now x := by
  induction x with
  | nil => simp only [ExE.bareL]
  | cons y x ih => simp only [ExE.bareL, ExE.evL, h y List.mem_cons_self, ih (fun z hz => h z (List.mem_cons_of_mem _ hz))]
theorem bare_ev (all : List (List Lab × List Smp)) (now : Int) : ∀ e : ExE, e.bare.ev all now = e.ev all now := ExE.induct fun e ih => by
  cases e with | mk k n w ma mc m ba bc b xa xc x =>
  simp only [ExE.bare, ExE.ev]
  rw [evL_congr (x := x) ih]
theorem bare_evalN (e : ExE) (all : List (List Lab × List Smp)) (now : Int) : evalN e.bare all now = evalN e all now := by
  unfold evalN
  rw [bare_chkT, bare_ev]
/-! ### the text -/
def wB (k : Int) : List UInt8 := if k = 3 then [115, 117, 109] else if k = 4 then [109, 97, 120] else if k = 5 then [99, 111, 117, 110, 116] else if k = 6 then [32, 43, 32] else if k = 7 then [32, 45, 32] else if k = 8 then [32, 42, 32] else []
def byT (b : List ByteArray) : List UInt8 := if b = [] then [] else [32, 98, 121, 32] ++ Lib.join (b.map bl) [44]
def rawT (k n w : Int) (m : List Mt) (b : List ByteArray) (ts : List (List UInt8)) : List UInt8 :=
  if partsN k = 1 then wB k ++ byT b ++ [40] ++ at_ ts 0 ++ [41] else if partsN k = 2 then [40] ++ at_ ts 0 ++ wB k ++ at_ ts 1 ++ [41]
  else if k = 1 then Lib.itoa n else bl (txtB m) ++ [91] ++ Lib.itoa w ++ [93]
mutual
def ExE.tx : ExE → List UInt8 | .mk k n w _ _ m _ _ b _ _ x => rawT k n w m b (ExE.txL x)
def ExE.txL : List ExE → List (List UInt8) | [] => [] | y :: ys => y.tx :: ExE.txL ys
end
theorem ExE.tx_eq (e : ExE) : e.tx = rawT e.kind e.n e.w e.m e.b (ExE.txL e.x) := by cases e; simp only [ExE.tx, ExE.kind, ExE.n, ExE.w, ExE.m, ExE.b, ExE.x]
theorem ExE.txL_map (x : List ExE) : ExE.txL x = x.map ExE.tx := by
  induction x with
  | nil => simp only [ExE.txL, List.map_nil]
  | cons y x ih => simp only [ExE.txL, List.map_cons, ih]
theorem bare_tx : ∀ e : ExE, e.bare.tx = e.tx := ExE.induct fun e ih => by
  cases e with | mk k n w ma mc m ba bc b xa xc x =>
  simp only [ExE.bare, ExE.tx]
  congr 1
  rw [ExE.txL_map, ExE.txL_map, ExE.bareL_map, List.map_map]
  exact List.map_congr_left (l := x) ih
/-! ### the reader -/
def cutP (p s : List UInt8) : Option (List UInt8) := if Lib.hasPrefix s p then some (s.drop p.length) else none
def untilP (c : UInt8) (s : List UInt8) : Option (List UInt8 × List UInt8) := if (Lib.cut s [c]).2.2 then some ((Lib.cut s [c]).1, (Lib.cut s [c]).2.1) else none
def numP (s : List UInt8) : Option Int := match Lib.parseIntB 64 s with | .ok v => some v | _ => none
def braceI : Bool → List Nat → Option Nat
  | _, [] => none
  | q, c :: r =>
    if c = 92 then (match r with | [] => none | _ :: r => (braceI q r).map (· + 2))
    else if c = 34 then (braceI (!q) r).map (· + 1)
    else if c = 125 ∧ q = false then some 0 else (braceI q r).map (· + 1)
def braceP (s : List UInt8) : Option (List UInt8 × List UInt8) := (braceI false (s.map (·.toNat))).map fun i => (s.take (i + 1), s.drop (i + 1))
def kwP : List Int → List UInt8 → Option (Int × List UInt8)
  | [], _ => none
  | k :: ks, s => match cutP (wB k) s with
    | some r => some (k, r)
    | none => kwP ks s
def byP (s : List UInt8) : Option (List ByteArray × List UInt8) :=
  match cutP [32, 98, 121, 32] s with
  | some r => (untilP 40 r).map fun u => ((Lib.split u.1 [44]).map (fun l => ⟨l.toArray⟩), u.2)
  | none => (cutP [40] s).map fun r => ([], r)
def numI (s : List UInt8) : Nat := (s.takeWhile numCh).length
def leafP (s : List UInt8) : Option (ExE × List UInt8) :=
  if Lib.hasPrefix s [123] then
    (braceP s).bind fun t => if (readN ⟨t.1.toArray⟩).2 ≠ 0 then none else (cutP [91] t.2).bind fun r => (untilP 93 r).bind fun u => (numP u.1).map fun n => (bx 2 0 n (readN ⟨t.1.toArray⟩).1 [] [], u.2)
  else (numP (s.take (numI s))).map fun n => (bx 1 n 0 [] [] [], s.drop (numI s))
def rdX : Nat → List UInt8 → Option (ExE × List UInt8)
  | 0, _ => none
  | f + 1, s =>
    match cutP [40] s with
    | some s1 => (rdX f s1).bind fun a => (kwP [6, 7, 8] a.2).bind fun k => (rdX f k.2).bind fun b => (cutP [41] b.2).map fun r => (bx k.1 0 0 [] [] [a.1, b.1], r)
    | none => match kwP [3, 4, 5] s with
      | some k => (byP k.2).bind fun b => (rdX f b.2).bind fun y => (cutP [41] y.2).map fun r => (bx k.1 0 0 [] b.1 [y.1], r)
      | none => leafP s
def zeroE : ExE := bx 0 0 0 [] [] []
/-- what Read of package expr tells -/
def readX (s : ByteArray) : ExE × Int :=
  if 4000 < s.size then (zeroE, 2) else match rdX 100 (bl s) with
  | none => (zeroE, 4)
  | some (e, _) => if e.chkT = 0 ∧ e.tx = bl s then (e, 0) else (zeroE, 4)
/-- what Text of package expr tells -/
def textX (e : ExE) : ByteArray × Int := if e.chkT ≠ 0 then (noS, e.chkT) else (⟨e.tx.toArray⟩, 0)
theorem readX_ok {s : ByteArray} {e : ExE} (h : readX s = (e, 0)) : e.chkT = 0 ∧ e.tx = bl s := by
  unfold readX at h
  split at h
  · cases h
  · split at h
    · cases h
    · split at h
      · rename_i hc
        injection h with h1 _
        rw [← h1]; exact hc
      · cases h
theorem readX_cases (s : ByteArray) : (∃ e, readX s = (e, 0)) ∨ ∃ k, k ≠ 0 ∧ readX s = (zeroE, k) := by
  unfold readX
  split
  · exact .inr ⟨2, by decide, rfl⟩
  · split
    · exact .inr ⟨4, by decide, rfl⟩
    · split
      · exact .inl ⟨_, rfl⟩
      · exact .inr ⟨4, by decide, rfl⟩
/-! ### what is told is read -/
theorem cutP_app (p r : List UInt8) : cutP p (p ++ r) = some r := by
  unfold cutP Lib.hasPrefix
  rw [if_pos (by rw [List.isPrefixOf_iff_prefix]; exact List.prefix_append _ _), List.drop_left]
theorem cutP_ne {a b : UInt8} {p s : List UInt8} (h : a ≠ b) : cutP (a :: p) (b :: s) = none := by
  unfold cutP Lib.hasPrefix
  rw [if_neg]
  simp [List.isPrefixOf]
  exact fun e => absurd e h
def Stop (r : List UInt8) : Prop := ∀ c ∈ r.head?, numCh c = false
theorem stop_cons {c : UInt8} {r : List UInt8} (h : numCh c = false) : Stop (c :: r) := fun x hx => by
  simp at hx
  rw [← hx]; exact h
theorem untilP_at {c : UInt8} {a : List UInt8} (r : List UInt8) (h : c ∉ a) : untilP c (a ++ c :: r) = some (a, r) := by
  unfold untilP
  rw [cut_at r h, if_pos rfl]
theorem numP_itoa {n : Int} (h : in64 n) : numP (Lib.itoa n) = some n := by
  unfold numP
  rw [parse_itoa h.1 h.2]
theorem kw_two {k : Int} (hk : partsN k = 2) (r : List UInt8) : kwP [6, 7, 8] (wB k ++ r) = some (k, r) := by
  have : k = 6 ∨ k = 7 ∨ k = 8 := by
    unfold partsN at hk
    split at hk
    · cases hk
    · split at hk
      · cases hk
      · split at hk
        · assumption
        · cases hk
  rcases this with rfl | rfl | rfl <;> simp [kwP, wB, cutP, Lib.hasPrefix, List.isPrefixOf]
theorem parts_one {k : Int} (hk : partsN k = 1) : k = 3 ∨ k = 4 ∨ k = 5 := by
  unfold partsN at hk
  split at hk
  · cases hk
  · split at hk
    · assumption
    · split at hk <;> cases hk
theorem kw_one {k : Int} (hk : partsN k = 1) (r : List UInt8) : cutP [40] (wB k ++ r) = none ∧ kwP [3, 4, 5] (wB k ++ r) = some (k, r) := by
  rcases parts_one hk with rfl | rfl | rfl <;> simp [kwP, wB, cutP, Lib.hasPrefix, List.isPrefixOf]
theorem kw_none {c : UInt8} {s : List UInt8} (h : c ≠ 115 ∧ c ≠ 109 ∧ c ≠ 99) : kwP [3, 4, 5] (c :: s) = none := by
  have e3 : wB 3 = [115, 117, 109] := rfl
  have e4 : wB 4 = [109, 97, 120] := rfl
  have e5 : wB 5 = [99, 111, 117, 110, 116] := rfl
  simp only [kwP, e3, e4, e5]
  rw [cutP_ne (Ne.symm h.1), cutP_ne (Ne.symm h.2.1), cutP_ne (Ne.symm h.2.2)]
theorem name_chars {nm : ByteArray} (h : nameOk nm = true) : ∀ x ∈ bl nm, x ≠ 40 ∧ x ≠ 44 ∧ x ≠ 92 ∧ x ≠ 34 ∧ x ≠ 125 := by
  intro x hx
  unfold nameOk at h
  simp only [Bool.and_eq_true] at h
  have h2 := List.all_eq_true.1 h.2 x.toNat (List.mem_map_of_mem hx)
  unfold chOk at h2
  simp at h2
  refine ⟨?_, ?_, ?_, ?_, ?_⟩ <;> (rintro rfl; revert h2; decide)
theorem by_names {b : List ByteArray} (h : chkL (byL b) = 0) : b.length ≤ 10 ∧ ∀ s ∈ b, nameOk s = true := by
  obtain ⟨h1, h2, _⟩ := chkL_iff.1 h
  refine ⟨by unfold byL at h1; rw [List.length_map] at h1; exact h1, fun s hs => ?_⟩
  exact (h2 ⟨s, noS⟩ (List.mem_map_of_mem (f := fun s => (⟨s, noS⟩ : Lab)) hs)).1
theorem join_mem {c d : UInt8} (hcd : c ≠ d) : ∀ {l : List (List UInt8)}, (∀ y ∈ l, c ∉ y) → c ∉ Lib.join l [d]
  | [], _ => by rw [Lib.join_nil]; exact List.not_mem_nil
  | x :: r, h => by
    rw [Lib.join_cons]
    intro hm
    rcases List.mem_append.1 hm with h1 | h1
    · exact h x List.mem_cons_self h1
    · unfold Lib.joinTail at h1
      rw [List.mem_flatten] at h1
      obtain ⟨l, hl, h2⟩ := h1
      obtain ⟨y, hy, rfl⟩ := List.mem_map.1 hl
      rcases List.mem_append.1 h2 with h3 | h3
      · exact hcd (List.mem_singleton.1 h3)
      · exact h y (List.mem_cons_of_mem _ hy) h3
theorem byP_told {b : List ByteArray} (h : chkL (byL b) = 0) (r : List UInt8) : byP (byT b ++ 40 :: r) = some (b, r) := by
  have hb := (by_names h).2
  unfold byP byT
  by_cases h0 : b = []
  · rw [if_pos h0, List.nil_append, cutP_ne (by decide)]
    simp only []
    rw [show (40 :: r : List UInt8) = [40] ++ r from rfl, cutP_app, h0]
    rfl
  · rw [if_neg h0, List.append_assoc, cutP_app]
    simp only []
    have hn : (40 : UInt8) ∉ Lib.join (b.map bl) [44] := join_mem (by decide) fun y hy => by
      obtain ⟨s, hs, rfl⟩ := List.mem_map.1 hy
      exact fun hm => (name_chars (hb s hs) _ hm).1 rfl
    rw [untilP_at r hn]
    simp only [Option.map_some]
    rw [split_join (by simpa using h0) (fun y hy => by
      obtain ⟨s, hs, rfl⟩ := List.mem_map.1 hy
      exact fun hm => (name_chars (hb s hs) _ hm).2.1 rfl)]
    rw [List.map_map]
    congr 2
    refine (List.map_congr_left (g := id) fun s _ => ?_).trans (List.map_id _)
    exact bl_ext rfl
theorem braceI_skip {q : Bool} : ∀ {a : List Nat} (r : List Nat), (∀ c ∈ a, c ≠ 92 ∧ c ≠ 34 ∧ (c ≠ 125 ∨ q = true)) → braceI q (a ++ r) = (braceI q r).map (· + a.length)
  | [], r, _ => by simp
  | c :: a, r, h => by
    obtain ⟨h1, h2, h3⟩ := h c List.mem_cons_self
    rw [List.cons_append]
    conv => lhs; unfold braceI
    rw [if_neg h1, if_neg h2, if_neg (by rintro ⟨e1, e2⟩; rcases h3 with h3 | h3; exact h3 e1; rw [h3] at e2; cases e2), braceI_skip r (fun x hx => h x (List.mem_cons_of_mem _ hx)), Option.map_map]
    congr 1
theorem braceI_rep : ∀ (l r : List Nat), braceI true (repL l ++ r) = (braceI true r).map (· + (repL l).length)
  | [], r => by simp [repL]
  | x :: l, r => by
    rw [repL_cons, List.append_assoc]
    have h92 : ∀ y, braceI true (92 :: y :: (repL l ++ r)) = (braceI true r).map (· + ((repL l).length + 2)) := fun y => by
      conv => lhs; unfold braceI
      rw [if_pos rfl]
      simp only []
      rw [braceI_rep l r, Option.map_map]
      congr 1
    unfold rep1
    split
    · exact (h92 110).trans (by simp only [List.length_append, List.length_cons, List.length_nil]; congr 1; funext n; omega)
    · split
      · exact (h92 34).trans (by simp only [List.length_append, List.length_cons, List.length_nil]; congr 1; funext n; omega)
      · split
        · exact (h92 92).trans (by simp only [List.length_append, List.length_cons, List.length_nil]; congr 1; funext n; omega)
        · rename_i h1 h2 h3
          rw [braceI_skip (a := [x]) _ (fun c hc => by rw [List.mem_singleton.1 hc]; exact ⟨h3, h2, .inr rfl⟩), braceI_rep l r, Option.map_map]
          simp only [List.length_append, List.length_cons, List.length_nil]
          congr 1
          funext n
          simp only [Function.comp]
          omega
theorem braceI_quo (v : ByteArray) (r : List Nat) : braceI false (sb (quoB v) ++ r) = (braceI false r).map (· + (sb (quoB v)).length) := by
  rw [sb_quo]
  rw [List.cons_append, List.append_assoc]
  conv => lhs; unfold braceI
  rw [if_neg (by decide), if_pos rfl, Bool.not_false, braceI_rep]
  rw [List.singleton_append]
  conv => lhs; unfold braceI
  rw [if_neg (by decide), if_pos rfl, Bool.not_true, Option.map_map, Option.map_map]
  congr 1
  funext n
  simp only [Function.comp, List.length_append, List.length_cons, List.length_nil]
  omega
theorem sgB_chars : ∀ k, ∀ x ∈ sb (sgB k), x ≠ 92 ∧ x ≠ 34 ∧ x ≠ 125
  | 0 => by decide
  | 1 => by decide
  | 2 => by decide
  | 3 => by decide
  | 4 => by decide
  | _ + 5 => by intro x hx; exact absurd hx (by unfold sgB; exact List.not_mem_nil)
theorem braceI_mt {x : Mt} (hx : nameOk x.nm = true) (r : List Nat) : braceI false (sb (mtT x) ++ r) = (braceI false r).map (· + (sb (mtT x)).length) := by
  unfold mtT
  rw [sb_app, sb_app, List.append_assoc, List.append_assoc, braceI_skip, braceI_skip, braceI_quo, Option.map_map, Option.map_map]
  · congr 1
    funext n
    simp only [Function.comp, List.length_append]
    omega
  · intro c hc
    obtain ⟨h1, h2, h3⟩ := sgB_chars _ c hc
    exact ⟨h1, h2, .inl h3⟩
  · intro c hc
    rw [sb_bl] at hc
    obtain ⟨u, hu, rfl⟩ := List.mem_map.1 hc
    obtain ⟨_, _, h3, h4, h5⟩ := name_chars hx u hu
    have ne : ∀ d : UInt8, u ≠ d → u.toNat ≠ d.toNat := fun d h e => h (UInt8.toNat_inj.1 e)
    exact ⟨ne 92 h3, ne 34 h4, .inl (ne 125 h5)⟩
theorem braceI_tail : ∀ (M : List Mt) (r : List Nat), (∀ x ∈ M, nameOk x.nm = true) → braceI false ((Lib.joinTail [44] ((M.map mtT).map (fun x : ByteArray => x.data.toList))).map (·.toNat) ++ r) = (braceI false r).map (· + (Lib.joinTail [44] ((M.map mtT).map (fun x : ByteArray => x.data.toList))).length)
  | [], r, _ => by simp [Lib.joinTail]
  | m :: M, r, h => by
    rw [List.map_cons, List.map_cons, joinTail_cons, List.map_cons, List.map_append, List.cons_append, List.append_assoc]
    have e : (mtT m).data.toList.map (·.toNat) = sb (mtT m) := rfl
    rw [e]
    rw [show (UInt8.toNat 44 :: (sb (mtT m) ++ ((Lib.joinTail [44] ((M.map mtT).map (fun x : ByteArray => x.data.toList))).map (·.toNat) ++ r))) = [44] ++ (sb (mtT m) ++ ((Lib.joinTail [44] ((M.map mtT).map (fun x : ByteArray => x.data.toList))).map (·.toNat) ++ r)) from rfl,
      braceI_skip _ (fun c hc => by rw [List.mem_singleton.1 hc]; decide), braceI_mt (h m List.mem_cons_self), braceI_tail M r (fun x hx => h x (List.mem_cons_of_mem _ hx)), Option.map_map, Option.map_map]
    congr 1
    funext n
    have e2 : (sb (mtT m)).length = (mtT m).data.toList.length := by rw [← e, List.length_map]
    simp only [Function.comp, List.length_append, List.length_cons, List.length_nil, e2]
    omega
theorem txtB_bl (M : List Mt) : bl (txtB M) = 123 :: (Lib.join ((M.map mtT).map (fun x : ByteArray => x.data.toList)) [44] ++ [125]) := by
  unfold txtB
  rw [bl_app, bl_app, bl_of]
  simp [bl]
theorem braceP_told {M : List Mt} (h : chkM M = 0) (r : List UInt8) : braceP (bl (txtB M) ++ r) = some (bl (txtB M), r) := by
  have hm : ∀ x ∈ M, nameOk x.nm = true := fun x hx => (mtR_of h x hx).1
  have key : braceI false ((bl (txtB M) ++ r).map (·.toNat)) = some ((bl (txtB M)).length - 1) := by
    have hend : ∀ r : List Nat, braceI false (125 :: r) = some 0 := fun r => by
      unfold braceI
      rw [if_neg (by decide), if_neg (by decide), if_pos ⟨rfl, rfl⟩]
    rw [txtB_bl, List.map_append, List.map_cons, List.map_append, List.cons_append, List.append_assoc]
    rw [show ∀ t : List Nat, (UInt8.toNat 123 :: t) = [123] ++ t from fun _ => rfl, braceI_skip _ (fun c hc => by rw [List.mem_singleton.1 hc]; decide)]
    cases M with
    | nil =>
      rw [List.map_nil, List.map_nil, Lib.join_nil, List.map_nil, List.nil_append]
      show (braceI false (125 :: _)).map _ = _
      rw [hend]
      rfl
    | cons m M =>
      rw [List.map_cons, List.map_cons, Lib.join_cons, List.map_append, List.append_assoc]
      have e : (mtT m).data.toList.map (·.toNat) = sb (mtT m) := rfl
      have e2 : (sb (mtT m)).length = (mtT m).data.toList.length := by rw [← e, List.length_map]
      rw [e, braceI_mt (hm m List.mem_cons_self), braceI_tail M _ (fun x hx => hm x (List.mem_cons_of_mem _ hx))]
      show (((braceI false (125 :: _)).map _).map _).map _ = _
      rw [hend]
      simp only [Option.map_some, List.length_append, List.length_cons, List.length_nil, e2]
      congr 1
      omega
  have hl : 1 ≤ (bl (txtB M)).length := by rw [txtB_bl, List.length_cons]; omega
  unfold braceP
  rw [key]
  simp only [Option.map_some]
  rw [Nat.sub_add_cancel hl, List.take_left, List.drop_left]
theorem take_num {a r : List UInt8} (ha : ∀ c ∈ a, numCh c = true) (hr : Stop r) : numI (a ++ r) = a.length := by
  unfold numI
  rw [List.takeWhile_append_of_pos ha]
  have : r.takeWhile numCh = [] := by
    cases r with
    | nil => rfl
    | cons c r => rw [List.takeWhile_cons, if_neg (by rw [hr c rfl]; decide)]
  rw [this, List.append_nil]
theorem numCh_ne {c d : UInt8} (h : numCh c = true) (hd : numCh d = false) : c ≠ d := fun e => by rw [e, hd] at h; cases h
theorem list2X {α : Type} {l : List α} (h : l.length = 2) : ∃ a b, l = [a, b] := by
  match l, h with
  | [a, b], _ => exact ⟨a, b, rfl⟩
/-- what holds of an expression that Check lets by, but for those in it -/
structure ChkOne (e : ExE) : Prop where
  bad : ¬ badX e.kind e.n e.w e.m.length e.b.length e.x.length
  ms : chkM e.m = 0
  bs : chkL (byL e.b) = 0
theorem chk_iff {e : ExE} : e.chk = 0 ↔ ChkOne e ∧ ∀ y ∈ e.x, y.chk = 0 := by
  rw [ExE.chk_eq, fstE_iff]
  have hL : ∀ x : List ExE, ExE.chkL x = 0 ↔ ∀ y ∈ x, y.chk = 0 := fun x => by
    induction x with
    | nil => simp [ExE.chkL]
    | cons y x ih => simp only [ExE.chkL, fstE_iff, ih, List.forall_mem_cons]
  rw [hL]
  refine and_congr_left fun _ => ?_
  unfold ownX
  constructor
  · intro h
    split at h
    · cases h
    · rename_i hb
      obtain ⟨h1, h2⟩ := fstE_iff.1 h
      exact ⟨hb, h1, h2⟩
  · rintro ⟨h1, h2, h3⟩
    rw [if_neg h1]
    exact fstE_iff.2 ⟨h2, h3⟩
theorem rdX_told : ∀ e : ExE, e.chk = 0 → e.Nu → ∀ (f : Nat) (r : List UInt8), e.cnt ≤ f → Stop r → rdX f (e.tx ++ r) = some (e.bare, r) := by
  refine ExE.induct fun e ih => ?_
  intro hc hnu f r hf hr
  obtain ⟨ho, hs⟩ := chk_iff.1 hc
  obtain ⟨hbad, hms, hbs⟩ := ho
  rw [ExE.cnt_eq] at hf
  obtain ⟨f, rfl⟩ : ∃ g, f = g + 1 := ⟨f - 1, by omega⟩
  rw [ExE.tx_eq, ExE.bare_eq]
  have hn := hnu.num
  have hsub := hnu.sub
  obtain ⟨k, n, w, ma, mc, m, ba, bc, b, xa, xc, x⟩ := e
  simp only [ExE.kind, ExE.n, ExE.w, ExE.m, ExE.b, ExE.x] at *
  unfold badX at hbad
  have s40 : numCh 40 = false := by decide
  have s41 : numCh 41 = false := by decide
  have s32 : numCh 32 = false := by decide
  by_cases p1 : partsN k = 1
  · have hk := parts_one p1
    obtain ⟨y, rfl⟩ : ∃ y, x = [y] := List.length_eq_one_iff.1 (by omega)
    obtain rfl : m = [] := List.eq_nil_of_length_eq_zero (by omega)
    have hn0 : n = 0 := by omega
    have hw0 : w = 0 := by omega
    subst hn0 hw0
    have hy := ih y (List.mem_singleton_self y) (hs y (List.mem_singleton_self y)) (hsub y (List.mem_singleton_self y)) f (41 :: r) (by simp only [ExE.cntL] at hf; omega) (stop_cons s41)
    unfold rawT
    rw [if_pos p1]
    simp only [ExE.txL, ExE.bareL]
    have e0 : at_ [y.tx] 0 = y.tx := rfl
    rw [e0, show wB k ++ byT b ++ [40] ++ y.tx ++ [41] ++ r = wB k ++ (byT b ++ 40 :: (y.tx ++ 41 :: r)) by simp]
    rw [rdX, (kw_one p1 _).1]
    simp only []
    rw [(kw_one p1 _).2]
    simp only []
    rw [byP_told hbs]
    simp only [Option.bind_some]
    rw [hy]
    simp only [Option.bind_some]
    rw [show (41 :: r : List UInt8) = [41] ++ r from rfl, cutP_app]
    rfl
  by_cases p2 : partsN k = 2
  · obtain ⟨y, z, rfl⟩ : ∃ y z, x = [y, z] := list2X (by omega)
    have hk2 : k ≠ 1 ∧ k ≠ 2 := by constructor <;> (rintro rfl; cases p2)
    obtain rfl : m = [] := List.eq_nil_of_length_eq_zero (by omega)
    obtain rfl : b = [] := List.eq_nil_of_length_eq_zero (by omega)
    have hn0 : n = 0 := by omega
    have hw0 : w = 0 := by omega
    subst hn0 hw0
    simp only [ExE.cntL] at hf
    have hst : Stop (wB k ++ (z.tx ++ 41 :: r)) := by
      have : ∃ t, wB k = 32 :: t := by
        unfold partsN at p2
        split at p2
        · cases p2
        · split at p2
          · cases p2
          · split at p2
            · rename_i h
              rcases h with rfl | rfl | rfl <;> exact ⟨_, rfl⟩
            · cases p2
      obtain ⟨t, ht⟩ := this
      rw [ht]
      exact stop_cons s32
    have hy := ih y (by simp) (hs y (by simp)) (hsub y (by simp)) f (wB k ++ (z.tx ++ 41 :: r)) (by omega) hst
    have hz := ih z (by simp) (hs z (by simp)) (hsub z (by simp)) f (41 :: r) (by omega) (stop_cons s41)
    unfold rawT
    rw [if_neg p1, if_pos p2]
    simp only [ExE.txL, ExE.bareL]
    have e0 : at_ [y.tx, z.tx] 0 = y.tx := rfl
    have e1 : at_ [y.tx, z.tx] 1 = z.tx := rfl
    rw [e0, e1, show [40] ++ y.tx ++ wB k ++ z.tx ++ [41] ++ r = [40] ++ (y.tx ++ (wB k ++ (z.tx ++ 41 :: r))) by simp]
    rw [rdX, cutP_app]
    simp only []
    rw [hy]
    simp only [Option.bind_some]
    rw [kw_two p2]
    simp only [Option.bind_some]
    rw [hz]
    simp only [Option.bind_some]
    rw [show (41 :: r : List UInt8) = [41] ++ r from rfl, cutP_app]
    rfl
  · have hk : k = 1 ∨ k = 2 := by
      unfold partsN at p1 p2 hbad
      split at p1
      · assumption
      · exfalso
        split at p1
        · exact p1 rfl
        · rename_i h1 h2
          rw [if_neg h1, if_neg h2] at p2 hbad
          split at p2
          · exact p2 rfl
          · rename_i h3
            rw [if_neg h3] at hbad
            omega
    have hx0 : x = [] := by
      refine List.eq_nil_of_length_eq_zero ?_
      rcases hk with rfl | rfl
      · have : partsN 1 = 0 := rfl
        omega
      · have : partsN 2 = 0 := rfl
        omega
    subst hx0
    have hb0 : b = [] := List.eq_nil_of_length_eq_zero (by omega)
    subst hb0
    unfold rawT
    rw [if_neg p1, if_neg p2]
    rcases hk with rfl | rfl
    · rw [if_pos rfl]
      obtain rfl : m = [] := List.eq_nil_of_length_eq_zero (by omega)
      have hw0 : w = 0 := by omega
      subst hw0
      obtain ⟨c, t, hct⟩ : ∃ c t, Lib.itoa n = c :: t := by
        cases h : Lib.itoa n with
        | nil => exact absurd h (itoa_ne n)
        | cons c t => exact ⟨c, t, rfl⟩
      have hnc : numCh c = true := itoa_num n c (by rw [hct]; exact List.mem_cons_self)
      have ht := take_num (itoa_num n) hr
      rw [rdX]
      have h1 : cutP [40] (Lib.itoa n ++ r) = none := by rw [hct, List.cons_append, cutP_ne (Ne.symm (numCh_ne hnc s40))]
      have h2 : kwP [3, 4, 5] (Lib.itoa n ++ r) = none := by rw [hct, List.cons_append]; exact kw_none ⟨numCh_ne hnc (by decide), numCh_ne hnc (by decide), numCh_ne hnc (by decide)⟩
      have h3 : Lib.hasPrefix (Lib.itoa n ++ r) [123] = false := by
        rw [hct, List.cons_append]
        have := numCh_ne hnc (show numCh 123 = false by decide)
        simp [Lib.hasPrefix, List.isPrefixOf]
        exact fun e => this e.symm
      rw [h1]
      simp only []
      rw [h2]
      simp only []
      unfold leafP
      rw [if_neg (by rw [h3]; decide), ht, List.take_left, List.drop_left, numP_itoa hn]
      rfl
    · rw [if_neg (by decide)]
      have hn0 : n = 0 := by omega
      subst hn0
      have hw : in64 w := by unfold in64; omega
      rw [show bl (txtB m) ++ [91] ++ Lib.itoa w ++ [93] ++ r = bl (txtB m) ++ ([91] ++ (Lib.itoa w ++ 93 :: r)) by simp]
      rw [rdX]
      have hh : ∀ t, bl (txtB m) ++ t = 123 :: (Lib.join ((m.map mtT).map (fun x : ByteArray => x.data.toList)) [44] ++ [125] ++ t) := fun t => by rw [txtB_bl]; simp
      have h1 : cutP [40] (bl (txtB m) ++ ([91] ++ (Lib.itoa w ++ 93 :: r))) = none := by rw [hh, cutP_ne (by decide)]
      have h2 : kwP [3, 4, 5] (bl (txtB m) ++ ([91] ++ (Lib.itoa w ++ 93 :: r))) = none := by rw [hh]; exact kw_none (by decide)
      have h3 : Lib.hasPrefix (bl (txtB m) ++ ([91] ++ (Lib.itoa w ++ 93 :: r))) [123] = true := by rw [hh]; simp [Lib.hasPrefix, List.isPrefixOf]
      have hrd : readN ⟨(bl (txtB m)).toArray⟩ = (m, 0) := by
        rw [show (⟨(bl (txtB m)).toArray⟩ : ByteArray) = txtB m from bl_ext rfl]
        exact readN_told hms
      rw [h1]
      simp only []
      rw [h2]
      simp only []
      unfold leafP
      rw [if_pos h3, braceP_told hms]
      simp only [Option.bind_some]
      rw [hrd, if_neg (fun h => h rfl), cutP_app]
      simp only [Option.bind_some]
      rw [untilP_at r (fun hm => by have := itoa_num w _ hm; revert this; decide)]
      simp only [Option.bind_some]
      rw [numP_itoa hw]
      rfl
theorem chkT_iff {e : ExE} : e.chkT = 0 ↔ e.cnt ≤ 100 ∧ e.chk = 0 := by
  unfold ExE.chkT
  split
  · constructor
    · intro h; cases h
    · intro h; omega
  · constructor
    · intro h; exact ⟨by omega, h⟩
    · exact fun h => h.2
/-- an expression is read as it was told -/
theorem readX_told {e : ExE} (h : e.chkT = 0) (hn : e.Nu) (hs : e.tx.length ≤ 4000) : readX ⟨e.tx.toArray⟩ = (e.bare, 0) := by
  obtain ⟨h1, h2⟩ := chkT_iff.1 h
  have hr := rdX_told e h2 hn 100 [] h1 (fun c hc => by cases hc)
  rw [List.append_nil] at hr
  unfold readX
  rw [if_neg (by show ¬ 4000 < e.tx.toArray.size; rw [List.size_toArray]; omega), bl_of, hr]
  simp only []
  rw [if_pos ⟨by rw [bare_chkT]; exact h, bare_tx e⟩]
end Go.Proofs.YtnicbhmeigpjkaaGreatDoor
