/- Texts of the proof of HouseAcks, joined (by merge.py). Conditions: each theorem's own hypotheses. -/
import Derived.Test.YtihjgbhnlejhfaaGreatDoorHouseAcksP3
import Derived.Laws.BytesArg
import Derived.Lib.Strings
import Derived.OwnWalk
namespace Go.Proofs.YtihjgbhnlejhfaaGreatDoor
open Go.RowKit

def strN (l : List Nat) : ByteArray := ⟨(l.map fun n => UInt8.ofNat n).toArray⟩
theorem strN_back {l : List Nat} (hl : Bytes l) : ((strN l).data.toList.map UInt8.toNat) = l := by
  show (l.map fun n => UInt8.ofNat n).map UInt8.toNat = l
  induction l with
  | nil => rfl
  | cons b l ih =>
    have hb := hl b List.mem_cons_self
    rw [List.map_cons, List.map_cons, ih (fun x hx => hl x (List.mem_cons_of_mem _ hx))]
    congr 1
    simp [Nat.mod_eq_of_lt hb]
theorem strN_inj {a b : List Nat} (ha : Bytes a) (hb : Bytes b) (h : strN a = strN b) : a = b := by
  rw [← strN_back ha, ← strN_back hb, h]
theorem toList_data (s : ByteArray) : s.toList = s.data.toList := ByteArray.toList_eq s
theorem strN_beq {a b : List Nat} (ha : Bytes a) (hb : Bytes b) : ((strN a).toList == (strN b).toList) = decide (a = b) := by
  by_cases e : a = b
  · subst e; simp
  · rw [decide_eq_false e, beq_eq_false_iff_ne]
    intro h
    rw [toList_data, toList_data] at h
    exact e (by rw [← strN_back ha, ← strN_back hb, h])

section
variable {P : Program} {w : World}
theorem run_conv_bytes {src e dst : TypeId} (hs : P.underlying src = some (.slice e)) (he : P.underlying e = some (.int .u8)) (hd : P.underlying dst = some .string) {A : Option Addr} {n c B : Nat} {l : List Nat}
    (hl : l.length = n) (hr : Has w B A (u8s l)) : (convert src dst (.slice A n c)).run P w = .ok (.string (strN l)) w := by
  cases A with
  | none =>
    have : l = [] := by
      cases l with
      | nil => rfl
      | cons x r => obtain ⟨ad, h, _⟩ := hr (by simp [u8s]); cases h
    subst this
    exact run_convert_bytes_nil w src e hs he n c dst hd
  | some ad =>
    have hld : (loadCells ad n).run P w = .ok ((l.map fun b : Nat => (b : Int)).map (Value.int .u8)).toArray w := by
      have := run_loadCells_list (P := P) w ad (u8s l) (fun j v hj => by
        obtain ⟨ad', h, _, hc⟩ := hr.at hj
        injection h with h
        subst h
        exact hc)
      rw [u8s_len, hl] at this
      rw [this]
      simp [u8s, u8v, List.map_map, Function.comp_def]
    rw [run_convert_bytes_string w src dst e _ n c hs he hd, run_bytesToString w _ n c _ hld, foldl_push_bytes]
    simp [strN, ByteArray.empty, ByteArray.emptyWithCapacity, List.map_map, Function.comp_def]
    rfl
end

end Go.Proofs.YtihjgbhnlejhfaaGreatDoor
namespace Go.Proofs.YtihjgbhnlejhfaaGreatDoor
open Go.RowKit

/-- the first record, its frame's length, and whether there is one -/
def firstN (b : List Nat) : List Nat × Nat × Bool :=
  if (takeN b).2.2 ≠ 0 ∨ 2000 < (takeN b).1 ∨ b.length < (takeN b).2.1 + (takeN b).1 + 8 then ([], 0, false)
  else ((b.drop (takeN b).2.1).take (takeN b).1, (takeN b).2.1 + (takeN b).1 + 8, decide (frameL ((b.drop (takeN b).2.1).take (takeN b).1) = b.take ((takeN b).2.1 + (takeN b).1 + 8)))
theorem cutU8 {w : World} {B : Nat} {ad : Addr} {b : List Nat} {c j x : Nat} (h : Has w B (some ad) (u8s b)) (hbc : b.length ≤ c) (hj : j < c) : Has w B (some (ad.add j)) (u8s ((b.drop j).take x)) := by
  have h1 := (h.cut (k := j) (size := 1) (cap := c) (n := b.length) (by rw [u8s_length]; omega) hbc).take x
  rw [if_neg (by omega), Nat.mul_one] at h1
  have e : (u8s ((b.drop j).take x)) = ((u8s b).drop j).take x := by simp [u8s, List.map_take, List.map_drop]
  rw [e]
  exact h1
theorem takeU8 {w : World} {B : Nat} {A : Option Addr} {b : List Nat} (h : Has w B A (u8s b)) (k : Nat) : Has w B A (u8s (b.take k)) := by
  have e : u8s (b.take k) = (u8s b).take k := by simp [u8s, List.map_take]
  rw [e]
  exact h.take k
def FirstP (r : List Nat × Nat × Bool) (w : World) (v : Value) (w' : World) : Prop :=
  ∃ A c, v = .tuple #[.slice A r.1.length c, .int .i64 r.2.1, .bool r.2.2] ∧ w'.ownsRow w.heap.size 5 1 (.slice A r.1.length c) r.1.length (u8s r.1) ∧ Below w.heap.size w w'
set_option maxRecDepth 1000000 in
set_option maxHeartbeats 4000000 in
theorem first_any (A : Option Addr) (n c : Nat) (b : List Nat) (hn : b.length = n) (hnc : n ≤ c) (hl : b.length ≤ 140737488355328) (hb : Bytes b) (w : World) (h : Has w w.heap.size A (u8s b)) :
    Calls Tryz.prog 139 #[.slice A n c] w (RV (FirstP (firstN b) w)) := by
  subst hn
  have hlm : b.length ≤ maxLen := by unfold maxLen; omega
  obtain ⟨⟨x, j, e⟩, ht⟩ : ∃ r, takeN b = r := ⟨_, rfl⟩
  have hx := takeN_lt hb ht
  have HT := Lib.hid ht
  have hbad := takeGo_bad b 0 0
  rw [show takeGo 0 0 b = takeN b from rfl, ht] at hbad
  have E : firstN b = if e ≠ 0 ∨ 2000 < x ∨ b.length < j + x + 8 then ([], 0, false) else ((b.drop j).take x, j + x + 8, decide (frameL ((b.drop j).take x) = b.take (j + x + 8))) := by unfold firstN; rw [ht]
  by_cases hc : e ≠ 0 ∨ 2000 < x ∨ b.length < j + x + 8
  · rw [if_pos hc] at E
    have E := Lib.hid E
    rw [E.out]
    clear hbad ht
    have hj : j ≤ 1000 ∨ True := .inr trivial
    rcases (show (e ≠ 0) ∨ (e = 0 ∧ 2000 < x) ∨ (e = 0 ∧ x ≤ 2000 ∧ b.length < j + x + 8) by omega) with h1 | ⟨h1, h2⟩ | ⟨h1, h2, h3⟩
    · have f1 : ((e : Int) != 0) = true := by rw [bne_iff_ne]; omega
      clear hc h1
      go_enter Tryz.func139, Tryz.ntmps139
      go_wp2_with fail
      refine (take_any' A _ c b rfl hlm hb _ (by exact h)).mono ?_
      rintro e' w1 ⟨rfl, n1, rfl⟩
      rw [HT.out, R3]
      go_wp2_with fail
      go_ret3
      exact RV.mk ⟨none, 0, rfl, ⟨rfl, .inl ⟨rfl, rfl⟩⟩, below_drewN (Below.refl _ _) _⟩
    · subst h1
      have h2' : (2000 : Int) < (x : Int) := by omega
      clear hc h2
      go_enter Tryz.func139, Tryz.ntmps139
      go_wp2_with fail
      refine (take_any' A _ c b rfl hlm hb _ (by exact h)).mono ?_
      rintro e' w1 ⟨rfl, n1, rfl⟩
      rw [HT.out, R3]
      go_wp2_with fail
      go_ret3
      exact RV.mk ⟨none, 0, rfl, ⟨rfl, .inl ⟨rfl, rfl⟩⟩, below_drewN (Below.refl _ _) _⟩
    · subst h1
      obtain ⟨_, hj2, _⟩ := takeN_ok hb HT.out
      have h2' : (x : Int) ≤ 2000 := by omega
      have e1 : IntKind.i64.wrap (x : Int) = (x : Int) := IntWalk.i64_in _ (by omega)
      have h3' : (b.length : Int) < (j : Int) + (x : Int) + 8 := by omega
      clear hc h2 h3
      go_enter Tryz.func139, Tryz.ntmps139
      go_wp2_with fail
      refine (take_any' A _ c b rfl hlm hb _ (by exact h)).mono ?_
      rintro e' w1 ⟨rfl, n1, rfl⟩
      rw [HT.out, R3]
      go_wp2_with fail
      go_ret3
      exact RV.mk ⟨none, 0, rfl, ⟨rfl, .inl ⟨rfl, rfl⟩⟩, below_drewN (Below.refl _ _) _⟩
  · rw [if_neg hc] at E
    obtain rfl : e = 0 := by omega
    obtain ⟨_, hj2, _⟩ := takeN_ok hb HT.out
    have h2' : (x : Int) ≤ 2000 := by omega
    have e1 : IntKind.i64.wrap (x : Int) = (x : Int) := IntWalk.i64_in _ (by omega)
    have h3' : (j : Int) + (x : Int) + 8 ≤ (b.length : Int) := by omega
    obtain ⟨R, hR⟩ : ∃ R, (b.drop j).take x = R := ⟨_, rfl⟩
    have hRl : R.length = x := by rw [← hR, List.length_take, List.length_drop]; omega
    rw [hR] at E
    have E := Lib.hid E
    rw [E.out]
    have hRb : Bytes R := by rw [← hR]; exact fun y hy => hb y (List.mem_of_mem_drop (List.mem_of_mem_take hy))
    have HR := Lib.hid hR; clear hR
    have hfr := Lib.hid (show frameN R = (frameL R, 0) by unfold frameN; rw [if_neg (by omega)])
    obtain ⟨ad, rfl, _, _⟩ := h.at (u8s_at (show 0 < b.length by omega))
    have hcut := Lib.hid (cutU8 (x := x) h hnc (show j < c by omega))
    rw [HR.out] at hcut
    have hRu := Lib.hid (u8s_one R)
    have hT8 : Bytes (b.take (j + x + 8)) := fun y hy => hb y (List.mem_of_mem_take hy)
    have hT8 := Lib.hid hT8
    have hTl := Lib.hid (show (b.take (j + x + 8)).length = j + x + 8 by rw [List.length_take]; omega)
    have hfl := putL_len10 (show R.length < 18446744073709551616 by omega)
    have hfl2 : (frameL R).length ≤ 2018 := by unfold frameL; rw [List.length_append, List.length_append, be8_len]; omega
    clear hc hbad ht hfl
    go_enter Tryz.func139, Tryz.ntmps139
    go_wp2_with fail
    refine (take_any' (some ad) _ c b rfl hlm hb _ (by exact h)).mono ?_
    rintro e' w1 ⟨rfl, n1, rfl⟩
    rw [HT.out, R3]
    go_wp2_with fail
    refine (cloneU8_any _ x _ (u8s R) (by rw [u8s_length, hRl]; omega) hRu.out (by intro hx; cases hx) (by omega) _ (by exact hcut.out)).mono ?_
    rintro e' w2 ⟨v, rfl, A2, c2, rfl, ho2, hb2⟩
    have hb2' : Below w.heap.size w w2 := (below_drewN (Below.refl _ _) n1).trans hb2
    have hr2 := Lib.hid (Has.of_own ho2)
    have ho2 := Lib.hid ho2
    have h2w := Lib.hid (h.next hb2')
    go_wp2_with fail
    refine (frame_any A2 x c2 R hRl (by unfold maxLen; omega) hRb _ (by exact hr2.out)).mono ?_
    rw [hfr.out]
    rintro e' w3 ⟨v, rfl, A3, c3, rfl, ho3, hb3⟩
    have hb3' := bnext hb2' hb3
    have hr3 := Lib.hid (Has.of_own ho3); clear ho3
    have h3w := Lib.hid (h2w.out.next hb3)
    have hc8 : (j : Int) + (x : Int) + 8 ≤ (c : Int) := by omega
    go_wp2_with fail
    refine (equalU8_any A3 (some ad) _ (j + x + 8) c3 c (frameL R) (b.take (j + x + 8)) rfl hTl.out (by unfold maxLen; omega) (by unfold maxLen; omega) _ (by exact hr3.out) (by exact takeU8 h3w.out _)).mono ?_
    rintro e' w4 ⟨rfl, n4, rfl⟩
    go_wp2_with fail
    go_ret3
    refine RV.mk ⟨A2, c2, ?_, ?_, below_drewN hb3' _⟩
    · show Value.tuple #[.slice A2 x c2, .int .i64 ((j : Int) + (x : Int) + 8), .bool (decide (frameL R = b.take (j + x + 8)))] = Value.tuple #[.slice A2 R.length c2, .int .i64 ((j + x + 8 : Nat) : Int), .bool (decide (frameL R = b.take (j + x + 8)))]
      rw [hRl]; rfl
    · show (w3.drewN n4).ownsRow w.heap.size 5 1 (.slice A2 R.length c2) R.length (u8s R)
      rw [hRl]; exact own_drewN (own_next (own_less ho2.out (by simp)) hb3) _
end Go.Proofs.YtihjgbhnlejhfaaGreatDoor
namespace Go.Proofs.YtihjgbhnlejhfaaGreatDoor
open Go.RowKit

def cutGo (b : List Nat) : Nat → Nat → List (List Nat) × Nat
  | 0, p => ([], p)
  | f + 1, p => if (firstN (b.drop p)).2.2 then ((firstN (b.drop p)).1 :: (cutGo b f (p + (firstN (b.drop p)).2.1)).1, (cutGo b f (p + (firstN (b.drop p)).2.1)).2) else ([], p)
def cutN (b : List Nat) : List (List Nat) × Nat := cutGo b b.length 0
theorem first_ok {b : List Nat} (h : (firstN b).2.2 = true) : 9 ≤ (firstN b).2.1 ∧ (firstN b).2.1 ≤ b.length ∧ (firstN b).1.length ≤ 2000 ∧ frameL (firstN b).1 = b.take (firstN b).2.1 := by
  unfold firstN at h ⊢
  split at h
  · simp at h
  · rename_i hc
    rw [if_neg hc]
    simp only [decide_eq_true_iff] at h
    have h2 := congrArg List.length h
    have hp := putL_pos ((b.drop (takeN b).2.1).take (takeN b).1).length
    unfold frameL at h2
    rw [List.length_append, List.length_append, be8_len, List.length_take, List.length_take] at h2
    have h3 : ((b.drop (takeN b).2.1).take (takeN b).1).length ≤ (takeN b).1 := by rw [List.length_take]; omega
    refine ⟨?_, by simp only; omega, by simp only; omega, h⟩
    rw [List.length_take] at hp h3
    simp only
    omega
theorem first_bytes {b : List Nat} (hb : Bytes b) : Bytes (firstN b).1 := by
  unfold firstN
  split
  · intro x hx; simp at hx
  · exact fun y hy => hb y (List.mem_of_mem_drop (List.mem_of_mem_take hy))
theorem cutGo_ok (b : List Nat) : ∀ f p, p ≤ b.length → ∃ n, (cutGo b f p).2 = p + n ∧ p + n ≤ b.length ∧ ((cutGo b f p).1.map frameL).flatten = (b.drop p).take n ∧ ∀ r ∈ (cutGo b f p).1, r.length ≤ 2000 := by
  intro f
  induction f with
  | zero => intro p hp; exact ⟨0, rfl, hp, by simp [cutGo], by simp [cutGo]⟩
  | succ f ih =>
    intro p hp
    by_cases hc : (firstN (b.drop p)).2.2 = true
    · obtain ⟨h1, h2, h3, h4⟩ := first_ok hc
      rw [List.length_drop] at h2
      obtain ⟨n, e1, e2, e3, e4⟩ := ih (p + (firstN (b.drop p)).2.1) (by omega)
      refine ⟨(firstN (b.drop p)).2.1 + n, ?_, by omega, ?_, ?_⟩
      · rw [cutGo, if_pos hc]; show (cutGo b f _).2 = _; rw [e1]; omega
      · rw [cutGo, if_pos hc, List.map_cons, List.flatten_cons, e3, h4, List.take_add, List.drop_drop]
      · rw [cutGo, if_pos hc]
        intro r hr
        rcases List.mem_cons.1 hr with rfl | hr
        · exact h3
        · exact e4 r hr
    · exact ⟨0, by rw [cutGo, if_neg hc]; rfl, hp, by rw [cutGo, if_neg hc]; simp, by rw [cutGo, if_neg hc]; simp⟩
theorem cutGo_bytes {b : List Nat} (hb : Bytes b) : ∀ f p, ∀ r ∈ (cutGo b f p).1, Bytes r := by
  intro f
  induction f with
  | zero => intro p r hr; simp [cutGo] at hr
  | succ f ih =>
    intro p r hr
    rw [cutGo] at hr
    split at hr
    · rcases List.mem_cons.1 hr with rfl | hr
      · exact first_bytes (fun y hy => hb y (List.mem_of_mem_drop hy))
      · exact ih _ r hr
    · simp at hr
theorem cut_bytes {b : List Nat} (hb : Bytes b) {rs : List (List Nat)} {n : Nat} (h : cutN b = (rs, n)) : ∀ r ∈ rs, Bytes r := by
  have := cutGo_bytes hb b.length 0
  rw [show cutGo b b.length 0 = cutN b from rfl, h] at this
  exact this
theorem cutGo_more (b : List Nat) : ∀ f p, b.length ≤ p + f → cutGo b (f + 1) p = cutGo b f p := by
  intro f
  induction f with
  | zero =>
    intro p hp
    have hc : ¬ (firstN (b.drop p)).2.2 = true := fun hc => by
      obtain ⟨h1, h2, _⟩ := first_ok hc
      rw [List.length_drop] at h2
      omega
    have e : cutGo b (0 + 1) p = if (firstN (b.drop p)).2.2 then ((firstN (b.drop p)).1 :: (cutGo b 0 (p + (firstN (b.drop p)).2.1)).1, (cutGo b 0 (p + (firstN (b.drop p)).2.1)).2) else ([], p) := rfl
    rw [e, if_neg hc]; rfl
  | succ f ih =>
    intro p hp
    by_cases hc : (firstN (b.drop p)).2.2 = true
    · obtain ⟨h1, h2, _⟩ := first_ok hc
      rw [cutGo, if_pos hc, ih _ (by omega)]
      rw [cutGo, if_pos hc]
    · rw [cutGo, if_neg hc, cutGo, if_neg hc]

theorem cutB {w : World} {A : Option Addr} {b : List Nat} {c p : Nat} (h : Has w w.heap.size A (u8s b)) (hbc : b.length ≤ c) (B : Option Addr) (hB : B = if c = p then A else A.map (·.add p)) : Has w w.heap.size B (u8s (b.drop p)) := by
  have h1 := h.cut (k := p) (size := 1) (cap := c) (n := b.length) (by rw [u8s_length]; omega) hbc
  rw [Nat.mul_one] at h1
  have e : u8s (b.drop p) = (u8s b).drop p := by simp [u8s, List.map_drop]
  rw [e, hB]
  exact h1
theorem own_keep {w w' : World} {base size n : Nat} {e : TypeId} {v : Value} {xs : List Value} {row : Option Nat} (h : w.ownsRow base e size v n xs) (hg : w.grownBy w' row) (hne : ∀ k, v.ownBlock = some k → some k ≠ row) : w'.ownsRow base e size v n xs := by
  refine ⟨h.1, ?_⟩
  rcases h.2 with h2 | ⟨g, cap, cur, rfl, hb, hgg, rest⟩
  · exact .inl h2
  · exact .inr ⟨g, cap, cur, rfl, hb, (hg.block g (Array.getElem?_eq_some_iff.1 hgg).1 (hne g rfl)).trans hgg, rest⟩
theorem own_apart {w : World} {base base' size size' n n' : Nat} {e e' : TypeId} {v v' : Value} {xs xs' : List Value} (h : w.ownsRow base e size v n xs) (h' : w.ownsRow base' e' size' v' n' xs') (he : e ≠ e') : ∀ k, v.ownBlock = some k → some k ≠ v'.ownBlock := by
  intro k hk hk'
  rcases h.2 with ⟨rfl, _⟩ | ⟨g, cap, cur, rfl, _, hg, _⟩
  · cases hk
  · rcases h'.2 with ⟨rfl, _⟩ | ⟨g', cap', cur', rfl, _, hg', _⟩
    · cases hk'
    · injection hk with hk
      injection hk' with hk'
      have e1 : g = g' := by
        have : g = k := hk
        have h2 : k = g' := hk'
        omega
      subst e1
      rw [hg] at hg'
      injection hg' with hg'
      injection hg' with _ hg'
      exact he hg'
/-- rows of bytes, each a row of the call's own -/
inductive RecsOwn (w : World) (base : Nat) : List Value → List (List Nat) → Prop
  | nil : RecsOwn w base [] []
  | cons {A : Option Addr} {c : Nat} {r : List Nat} {vs : List Value} {rs : List (List Nat)} : w.ownsRow base 5 1 (.slice A r.length c) r.length (u8s r) → RecsOwn w base vs rs → RecsOwn w base (.slice A r.length c :: vs) (r :: rs)
theorem RecsOwn.next {w w' : World} {base : Nat} {vs : List Value} {rs : List (List Nat)} (h : RecsOwn w base vs rs) (hb : Below w.heap.size w w') : RecsOwn w' base vs rs := by
  induction h with
  | nil => exact .nil
  | cons h1 _ ih => exact .cons (own_next h1 hb) ih
theorem RecsOwn.grown {w w' : World} {base b2 size n : Nat} {v : Value} {xs : List Value} {vs : List Value} {rs : List (List Nat)} (h : RecsOwn w base vs rs) (ho : w.ownsRow b2 76 size v n xs) (hg : w.grownBy w' v.ownBlock) : RecsOwn w' base vs rs := by
  induction h with
  | nil => exact .nil
  | cons h1 _ ih => exact .cons (own_keep h1 hg (own_apart h1 ho (by decide))) ih
theorem RecsOwn.snoc {w : World} {base : Nat} {vs : List Value} {rs : List (List Nat)} {A : Option Addr} {c : Nat} {r : List Nat} (h : RecsOwn w base vs rs) (h' : w.ownsRow base 5 1 (.slice A r.length c) r.length (u8s r)) : RecsOwn w base (vs ++ [.slice A r.length c]) (rs ++ [r]) := by
  induction h with
  | nil => exact .cons h' .nil
  | cons h1 _ ih => exact .cons h1 ih
theorem RecsOwn.at {w : World} {base : Nat} {vs : List Value} {rs : List (List Nat)} (h : RecsOwn w base vs rs) : RecsAt w vs rs := by
  induction h with
  | nil => exact .nil
  | cons h1 _ ih =>
    obtain ⟨q1, q2⟩ := own_len h1
    obtain ⟨A5, c5, e5, _, _, _, hn5⟩ := own_form h1
    injection e5 with e51 _ e52
    subst e51 e52
    exact .cons ⟨_, _, rfl, q1, q2, hn5, Has.of_own h1⟩ ih
/-- the records and where they end -/
def CutP (r : List (List Nat) × Nat) (w : World) (v : Value) (w' : World) : Prop :=
  ∃ A c vs, v = .tuple #[.slice A r.1.length c, .int .i64 r.2] ∧ w'.ownsRow w.heap.size 76 1 (.slice A r.1.length c) r.1.length vs ∧ RecsOwn w' w.heap.size vs r.1 ∧ Below w.heap.size w w'
theorem elSl : Elem Tryz.prog 143 76 1 24 := Elem.mk' (z := .slice none 0 0) Tryz.underlying143 (by kernel_rfl) rfl (by decide)

set_option maxRecDepth 1000000 in
set_option maxHeartbeats 2000000 in
theorem cut_any (A : Option Addr) (n c : Nat) (b : List Nat) (r : List (List Nat) × Nat) (hr : cutN b = r) (hn : b.length = n) (hnc : n ≤ c) (_hc : c ≤ maxLen) (hl : b.length ≤ 1099511627776) (hb : Bytes b) (hnil : A = none → c = 0) (w : World) (hH : Has w w.heap.size A (u8s b)) :
    Calls Tryz.prog 109 #[.slice A n c] w (RV (CutP r w)) := by
  subst hn
  have HN := Lib.hid hnil; clear hnil
  go_enter Tryz.func109, Tryz.ntmps109
  go_wp2_with fail
  go_loopw [4, 5] (fun v i wr => ∃ (p f : Nat) (O : Option Addr) (e : Nat) (rs : List (List Nat)) (vs : List Value), p ≤ b.length ∧ b.length ≤ p + f ∧ rs.length ≤ p ∧ i = .int .i64 (p : Nat) ∧ v = .slice O rs.length e ∧ Hid (r = (rs ++ (cutGo b f p).1, (cutGo b f p).2)) ∧ wr.ownsRow w.heap.size 76 1 (.slice O rs.length e) rs.length vs ∧ RecsOwn wr w.heap.size vs rs ∧ Below w.heap.size w wr) (fun _ i _ => b.length + 5 - (intOf i).toNat)
  case atStart => exact ⟨0, b.length, none, 0, [], [], by omega, by omega, by simp, rfl, rfl, Lib.hid (by rw [← hr]; rfl), ⟨rfl, .inl ⟨rfl, rfl⟩⟩, .nil, Below.refl _ _⟩
  case round =>
    obtain ⟨p, f, O, e, rs, vs, hp, hf, hrs, rfl, rfl, hm, hown, hrec, hbr⟩ := hrel
    have hbs := hbr.size
    obtain ⟨F, hF⟩ : ∃ F, firstN (b.drop p) = F := ⟨_, rfl⟩
    have hdl : (b.drop p).length = b.length - p := List.length_drop
    have hdb : Bytes (b.drop p) := fun y hy => hb y (List.mem_of_mem_drop hy)
    have hFb := first_bytes hdb
    rw [hF] at hFb
    have hpc : (p : Int) ≤ (b.length : Int) := by omega
    have hpc2 : (p : Int) ≤ (c : Int) := by omega
    have hFp := Lib.hid (show RV (FirstP F wr) = RV (FirstP (firstN (b.drop p)) wr) by rw [hF])
    rcases hok : F.2.2 with _ | _
    · have hE : cutGo b f p = ([], p) := by
        cases f with
        | zero => rfl
        | succ f => rw [cutGo, hF, if_neg (by rw [hok]; simp)]
      have hm2 := Lib.hid (show r = (rs, p) by rw [hm.out, hE]; simp)
      have Hdl := Lib.hid hdl; clear hdl
      have Hok := Lib.hid hok; clear hok
      have hown := Lib.hid hown
      clear hF hE
      go_wp2_with fail
      all_goals
        refine (first_any _ _ _ (b.drop p) (by rw [Hdl.out]) (by omega) (by rw [Hdl.out]; omega) hdb _ (by exact cutB (hH.next hbr) hnc _ (by first | rw [if_pos (by assumption)] | rw [if_neg (by assumption)]))).mono ?_
        rw [← hFp.out]
        rintro e' w3 ⟨v, rfl, A3, c3, rfl, ho3, hb3⟩
        rw [Hok.out]
        go_wp2_with fail
        go_ret2
        rw [hm2.out]
        exact RV.mk ⟨O, e, vs, rfl, own_next hown.out hb3, hrec.next hb3, bnext hbr hb3⟩
    · have hlt : p < b.length := by
        have h9 := first_ok (b := b.drop p) (by rw [hF]; exact hok)
        rw [hF, hdl] at h9
        omega
      have h9 := first_ok (b := b.drop p) (by rw [hF]; exact hok)
      rw [hF, hdl] at h9
      obtain ⟨h91, h92, h93, _⟩ := h9
      obtain ⟨f, rfl⟩ : ∃ f', f = f' + 1 := ⟨f - 1, by omega⟩
      have hE : cutGo b (f + 1) p = (F.1 :: (cutGo b f (p + F.2.1)).1, (cutGo b f (p + F.2.1)).2) := by rw [cutGo, hF, if_pos hok]
      have hm2 := Lib.hid (show r = ((rs ++ [F.1]) ++ (cutGo b f (p + F.2.1)).1, (cutGo b f (p + F.2.1)).2) by rw [hm.out, hE]; simp)
      obtain ⟨ad, rfl, _, _⟩ := hH.at (u8s_at (show 0 < b.length by omega))
      have Hdl := Lib.hid hdl; clear hdl
      have Hok := Lib.hid hok; clear hok
      have hown := Lib.hid hown
      have hcp : ¬ c = p := by omega
      clear hF hE
      go_wp2_with fail
      refine (first_any _ _ _ (b.drop p) (by rw [Hdl.out]) (by omega) (by rw [Hdl.out]; omega) hdb _ (by exact cutB (hH.next hbr) hnc _ (by first | rw [if_pos (by assumption)] | (rw [if_neg (by assumption)]; rfl)))).mono ?_
      rw [← hFp.out]
      rintro e' w3 ⟨v, rfl, A3, c3, rfl, ho3, hb3⟩
      rw [Hok.out]
      have ho3' := Lib.hid (own_less ho3 (Nat.le_trans hbr.size (Nat.le_refl _))); clear ho3
      have hown3 := own_next hown.out hb3
      have hrec3 := Lib.hid (hrec.next hb3)
      have hb3' := bnext hbr hb3
      have hs3 := hb3'.size
      go_wp2_with (at_builtin; refine wpList_append1 rfl _ _ _ rfl elSl rfl hown3 rfl rfl rfl ?_ ?k1 ?k2 ?k3 ?k4; intro A4 c4 w4 hown4 hgrow hb4)
      case k1 => first | rfl | (intro u hu; simp at hu; subst hu; rfl)
      case k2 => omega
      case k3 => unfold maxLen; omega
      case k4 => omega
      have hown4 := Lib.hid hown4
      have hrv := Lib.hid ((hrec3.out.grown hown3 hgrow).snoc (own_keep ho3'.out hgrow (own_apart ho3'.out hown3 (by decide))))
      go_roundw
      case rel => exact ⟨p + F.2.1, f, A4, c4, rs ++ [F.1], vs ++ [.slice A3 F.1.length c3], by omega, by omega, by rw [List.length_append]; simp; omega, by go_num, by rw [List.length_append]; rfl, hm2, by rw [List.length_append]; exact hown4.out, hrv.out, hb3'.trans hb4⟩
      case measure => simp [intOf]; omega
end Go.Proofs.YtihjgbhnlejhfaaGreatDoor
namespace Go.Proofs.YtihjgbhnlejhfaaGreatDoor
open Go.RowKit

theorem first_frame {r : List Nat} (hr : r.length ≤ 2000) (rest : List Nat) : firstN (frameL r ++ rest) = (r, (frameL r).length, true) := by
  have ht : takeN (frameL r ++ rest) = (r.length, (putL r.length).length, 0) := by
    unfold frameL
    rw [List.append_assoc, List.append_assoc]
    exact takeN_put (by omega) _
  have hl : (frameL r).length = (putL r.length).length + r.length + 8 := by
    unfold frameL
    rw [List.length_append, List.length_append, be8_len]
  have h1 : ((frameL r ++ rest).drop (putL r.length).length).take r.length = r := by
    unfold frameL
    rw [List.append_assoc, List.append_assoc, List.drop_left, List.take_left]
  have h2 : (frameL r ++ rest).take ((putL r.length).length + r.length + 8) = frameL r := by
    rw [← hl, List.take_left]
  unfold firstN
  rw [ht]
  simp only
  rw [if_neg (by rw [List.length_append, hl]; omega), h1, h2, hl]
  simp
def flatF (rs : List (List Nat)) : List Nat := (rs.map frameL).flatten
theorem cutGo_flat : ∀ (rs : List (List Nat)) (pre : List Nat) (f : Nat), (∀ r ∈ rs, r.length ≤ 2000) → rs.length ≤ f → cutGo (pre ++ flatF rs) f pre.length = (rs, pre.length + (flatF rs).length)
  | [], pre, f, _, _ => by
    have e : flatF [] = [] := rfl
    have hc : ¬ (firstN ((pre ++ flatF []).drop pre.length)).2.2 = true := by
      rw [e, List.drop_left]
      decide
    cases f with
    | zero => simp [cutGo, e]
    | succ f => rw [cutGo, if_neg hc]; simp [e]
  | r :: rs, pre, f, h, hf => by
    obtain ⟨f, rfl⟩ : ∃ f', f = f' + 1 := ⟨f - 1, by simp at hf; omega⟩
    have e : flatF (r :: rs) = frameL r ++ flatF rs := rfl
    have e1 : firstN ((pre ++ flatF (r :: rs)).drop pre.length) = (r, (frameL r).length, true) := by
      rw [List.drop_left, e]
      exact first_frame (h r (by simp)) _
    rw [cutGo, e1, if_pos rfl]
    have e2 : pre ++ flatF (r :: rs) = (pre ++ frameL r) ++ flatF rs := by rw [e, List.append_assoc]
    have e3 : pre.length + (frameL r).length = (pre ++ frameL r).length := by rw [List.length_append]
    have ih := cutGo_flat rs (pre ++ frameL r) f (fun x hx => h x (by simp [hx])) (by simp at hf; omega)
    simp only
    rw [e2, e3, ih, e, List.length_append, List.length_append]
    simp [Nat.add_assoc]
theorem frameL_pos' (r : List Nat) : 9 ≤ (frameL r).length := by
  have := putL_pos r.length
  unfold frameL
  rw [List.length_append, List.length_append, be8_len]
  omega
theorem flatF_ge (rs : List (List Nat)) : rs.length ≤ (flatF rs).length := by
  induction rs with
  | nil => simp [flatF]
  | cons r rs ih =>
    have := frameL_pos' r
    unfold flatF at ih ⊢
    rw [List.map_cons, List.flatten_cons, List.length_append, List.length_cons]
    omega
theorem cut_flat {rs : List (List Nat)} (h : ∀ r ∈ rs, r.length ≤ 2000) : cutN (flatF rs) = (rs, (flatF rs).length) := by
  have := cutGo_flat rs [] (flatF rs).length h (flatF_ge rs)
  simpa [cutN] using this
theorem flatF_app (rs ks : List (List Nat)) : flatF (rs ++ ks) = flatF rs ++ flatF ks := by simp [flatF]
end Go.Proofs.YtihjgbhnlejhfaaGreatDoor
namespace Go.Proofs.YtihjgbhnlejhfaaGreatDoor
open Go.RowKit

theorem first_short {r : List Nat} (hr : r.length ≤ 2000) {k : Nat} (hk : k < (frameL r).length) : (firstN ((frameL r).take k)).2.2 = false := by
  rw [Bool.eq_false_iff]
  intro h
  obtain ⟨h1, h2, h3, h4⟩ := first_ok h
  obtain ⟨r', hr'⟩ : ∃ r', (firstN ((frameL r).take k)).1 = r' := ⟨_, rfl⟩
  obtain ⟨n, hn⟩ : ∃ n, (firstN ((frameL r).take k)).2.1 = n := ⟨_, rfl⟩
  rw [hr', hn, List.take_take] at h4
  rw [hr'] at h3
  rw [hn, List.length_take] at h2
  have h5 : frameL r = frameL r' ++ (frameL r).drop n := by
    rw [h4, show min n k = n by omega, List.take_append_drop]
  have h6 := first_frame h3 ((frameL r).drop n)
  rw [← h5] at h6
  have h7 := first_frame hr []
  rw [List.append_nil, h6] at h7
  injection h7 with _ h7
  injection h7 with h7 _
  have h8 := congrArg List.length h4
  rw [List.length_take] at h8
  omega
theorem cutGo_torn : ∀ (ts : List (List Nat)) (pre : List Nat) (f q : Nat), (∀ r ∈ ts, r.length ≤ 2000) → ts.length ≤ f → q ≤ (flatF ts).length →
    ∃ m, m ≤ ts.length ∧ (flatF (ts.take m)).length ≤ q ∧ (m < ts.length → q < (flatF (ts.take (m + 1))).length) ∧ cutGo (pre ++ (flatF ts).take q) f pre.length = (ts.take m, pre.length + (flatF (ts.take m)).length)
  | [], pre, f, q, _, _, hq => by
    have e : flatF [] = [] := rfl
    refine ⟨0, by simp, by simp [e], by simp, ?_⟩
    have hc : ¬ (firstN ((pre ++ (flatF []).take q).drop pre.length)).2.2 = true := by
      rw [e, List.take_nil, List.drop_left]
      decide
    cases f with
    | zero => simp [cutGo, e]
    | succ f => rw [cutGo, if_neg hc]; simp [e]
  | r :: rs, pre, f, q, h, hf, hq => by
    obtain ⟨f, rfl⟩ : ∃ f', f = f' + 1 := ⟨f - 1, by simp at hf; omega⟩
    have e : flatF (r :: rs) = frameL r ++ flatF rs := rfl
    have hr := h r (by simp)
    by_cases hq2 : q < (frameL r).length
    · refine ⟨0, by simp, by simp [flatF], ?_, ?_⟩
      · intro _
        rw [show (r :: rs).take (0 + 1) = [r] from rfl, show flatF [r] = frameL r ++ [] from rfl, List.append_nil]
        exact hq2
      · have e2 : (flatF (r :: rs)).take q = (frameL r).take q := by rw [e, List.take_append_of_le_length (by omega)]
        have hc : ¬ (firstN ((pre ++ (flatF (r :: rs)).take q).drop pre.length)).2.2 = true := by
          rw [List.drop_left, e2, first_short hr hq2]
          decide
        rw [cutGo, if_neg hc]
        rfl
    · have e2 : (flatF (r :: rs)).take q = frameL r ++ (flatF rs).take (q - (frameL r).length) := by
        rw [e, List.take_append, List.take_of_length_le (by omega)]
      have e1 : firstN ((pre ++ (flatF (r :: rs)).take q).drop pre.length) = (r, (frameL r).length, true) := by
        rw [List.drop_left, e2]
        exact first_frame hr _
      rw [e, List.length_append] at hq
      obtain ⟨m, h1, h2, h3, h4⟩ := cutGo_torn rs (pre ++ frameL r) f (q - (frameL r).length) (fun x hx => h x (by simp [hx])) (by simp at hf; omega) (by omega)
      have e5 : ∀ j, flatF ((r :: rs).take (j + 1)) = frameL r ++ flatF (rs.take j) := fun j => by rw [List.take_succ_cons]; rfl
      refine ⟨m + 1, by simp; omega, by rw [e5, List.length_append]; omega, ?_, ?_⟩
      · intro hm
        have := h3 (by simpa using hm)
        rw [e5, List.length_append]
        omega
      · rw [cutGo, e1, if_pos rfl]
        have e3 : pre.length + (frameL r).length = (pre ++ frameL r).length := by rw [List.length_append]
        simp only
        rw [e2, ← List.append_assoc, e3, h4, e5, List.length_append, List.length_append, List.take_succ_cons]
        simp [Nat.add_assoc]
theorem flatF_mono (ts : List (List Nat)) {a b : Nat} (h : a ≤ b) : (flatF (ts.take a)).length ≤ (flatF (ts.take b)).length := by
  have e : ts.take b = ts.take a ++ (ts.take b).drop a := by
    have := (List.take_append_drop a (ts.take b)).symm
    rwa [List.take_take, Nat.min_eq_left h] at this
  rw [e, flatF_app, List.length_append]
  omega
theorem cut_torn {ts : List (List Nat)} (h : ∀ r ∈ ts, r.length ≤ 2000) {q : Nat} (hq : q ≤ (flatF ts).length) :
    ∃ m, m ≤ ts.length ∧ (flatF (ts.take m)).length ≤ q ∧ (∀ k, k ≤ ts.length → (flatF (ts.take k)).length ≤ q → k ≤ m) ∧ cutN ((flatF ts).take q) = (ts.take m, (flatF (ts.take m)).length) ∧ (flatF ts).take (flatF (ts.take m)).length = flatF (ts.take m) := by
  have hfuel : ∀ f p, ((flatF ts).take q).length ≤ p + f → ∀ j, cutGo ((flatF ts).take q) (f + j) p = cutGo ((flatF ts).take q) f p := by
    intro f p hp j
    induction j with
    | zero => rfl
    | succ j ih => rw [← Nat.add_assoc, cutGo_more _ _ _ (by omega), ih]
  obtain ⟨m, h1, h2, h3, h4⟩ := cutGo_torn ts [] (((flatF ts).take q).length + ts.length) q h (by omega) hq
  rw [List.nil_append, List.length_nil, hfuel _ _ (by omega)] at h4
  refine ⟨m, h1, h2, ?_, by rw [show cutN ((flatF ts).take q) = cutGo ((flatF ts).take q) ((flatF ts).take q).length 0 from rfl, h4, Nat.zero_add], ?_⟩
  · intro k hk hkq
    rcases Nat.lt_or_ge m k with hmk | hmk
    · have h5 := h3 (by omega)
      have h6 := flatF_mono ts (show m + 1 ≤ k by omega)
      omega
    · exact hmk
  · have e : flatF ts = flatF (ts.take m) ++ flatF (ts.drop m) := by rw [← flatF_app, List.take_append_drop]
    rw [e, List.take_left]
end Go.Proofs.YtihjgbhnlejhfaaGreatDoor
