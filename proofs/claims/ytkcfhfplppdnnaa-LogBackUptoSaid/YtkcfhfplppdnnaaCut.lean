/- What Cut of package log finds. Conditions: the bytes are bytes. -/
import Derived.Test.YtkcfhfplppdnnaaFirst
import Derived.Test.YtkcfhfplppdnnaaRecs
namespace Go.Proofs.Ytkcfhfplppdnnaa
open Go.RowKit

def cutGo (b : List Nat) : Nat → Nat → List (List Nat) × Nat
  | 0, p => ([], p)
  | f + 1, p => if (firstN (b.drop p)).2.2 then ((firstN (b.drop p)).1 :: (cutGo b f (p + (firstN (b.drop p)).2.1)).1, (cutGo b f (p + (firstN (b.drop p)).2.1)).2) else ([], p)
def cutN (b : List Nat) : List (List Nat) × Nat := cutGo b b.length 0
theorem first_ok {b : List Nat} (h : (firstN b).2.2 = true) : 9 ≤ (firstN b).2.1 ∧ (firstN b).2.1 ≤ b.length ∧ (firstN b).1.length ≤ 2000 ∧ frameL (firstN b).1 = b.take (firstN b).2.1 := by
  unfold firstN at h ⊢
  split at h
  · simp at h
  · rename_i hc
    rw [if_neg hc]
    simp only [decide_eq_true_iff] at h
    have h2 := congrArg List.length h
    have hp := putL_pos ((b.drop (takeN b).2.1).take (takeN b).1).length
    unfold frameL at h2
    rw [List.length_append, List.length_append, be8_len, List.length_take, List.length_take] at h2
    have h3 : ((b.drop (takeN b).2.1).take (takeN b).1).length ≤ (takeN b).1 := by rw [List.length_take]; omega
    refine ⟨?_, by simp only; omega, by simp only; omega, h⟩
    rw [List.length_take] at hp h3
    simp only
    omega
theorem first_bytes {b : List Nat} (hb : Bytes b) : Bytes (firstN b).1 := by
  unfold firstN
  split
  · intro x hx; simp at hx
  · exact fun y hy => hb y (List.mem_of_mem_drop (List.mem_of_mem_take hy))
theorem cutGo_ok (b : List Nat) : ∀ f p, p ≤ b.length → ∃ n, (cutGo b f p).2 = p + n ∧ p + n ≤ b.length ∧ ((cutGo b f p).1.map frameL).flatten = (b.drop p).take n ∧ ∀ r ∈ (cutGo b f p).1, r.length ≤ 2000 := by
  intro f
  induction f with
  | zero => intro p hp; exact ⟨0, rfl, hp, by simp [cutGo], by simp [cutGo]⟩
  | succ f ih =>
    intro p hp
    by_cases hc : (firstN (b.drop p)).2.2 = true
    · obtain ⟨h1, h2, h3, h4⟩ := first_ok hc
      rw [List.length_drop] at h2
      obtain ⟨n, e1, e2, e3, e4⟩ := ih (p + (firstN (b.drop p)).2.1) (by omega)
      refine ⟨(firstN (b.drop p)).2.1 + n, ?_, by omega, ?_, ?_⟩
      · rw [cutGo, if_pos hc]; show (cutGo b f _).2 = _; rw [e1]; omega
      · rw [cutGo, if_pos hc, List.map_cons, List.flatten_cons, e3, h4, List.take_add, List.drop_drop]
      · rw [cutGo, if_pos hc]
        intro r hr
        rcases List.mem_cons.1 hr with rfl | hr
        · exact h3
        · exact e4 r hr
    · exact ⟨0, by rw [cutGo, if_neg hc]; rfl, hp, by rw [cutGo, if_neg hc]; simp, by rw [cutGo, if_neg hc]; simp⟩
theorem cutGo_bytes {b : List Nat} (hb : Bytes b) : ∀ f p, ∀ r ∈ (cutGo b f p).1, Bytes r := by
  intro f
  induction f with
  | zero => intro p r hr; simp [cutGo] at hr
  | succ f ih =>
    intro p r hr
    rw [cutGo] at hr
    split at hr
    · rcases List.mem_cons.1 hr with rfl | hr
      · exact first_bytes (fun y hy => hb y (List.mem_of_mem_drop hy))
      · exact ih _ r hr
    · simp at hr
theorem cut_bytes {b : List Nat} (hb : Bytes b) {rs : List (List Nat)} {n : Nat} (h : cutN b = (rs, n)) : ∀ r ∈ rs, Bytes r := by
  have := cutGo_bytes hb b.length 0
  rw [show cutGo b b.length 0 = cutN b from rfl, h] at this
  exact this
theorem cutGo_more (b : List Nat) : ∀ f p, b.length ≤ p + f → cutGo b (f + 1) p = cutGo b f p := by
  intro f
  induction f with
  | zero =>
    intro p hp
    have hc : ¬ (firstN (b.drop p)).2.2 = true := fun hc => by
      obtain ⟨h1, h2, _⟩ := first_ok hc
      rw [List.length_drop] at h2
      omega
    have e : cutGo b (0 + 1) p = if (firstN (b.drop p)).2.2 then ((firstN (b.drop p)).1 :: (cutGo b 0 (p + (firstN (b.drop p)).2.1)).1, (cutGo b 0 (p + (firstN (b.drop p)).2.1)).2) else ([], p) := rfl
    rw [e, if_neg hc]; rfl
  | succ f ih =>
    intro p hp
    by_cases hc : (firstN (b.drop p)).2.2 = true
    · obtain ⟨h1, h2, _⟩ := first_ok hc
      rw [cutGo, if_pos hc, ih _ (by omega)]
      rw [cutGo, if_pos hc]
    · rw [cutGo, if_neg hc, cutGo, if_neg hc]

theorem cutB {w : World} {A : Option Addr} {b : List Nat} {c p : Nat} (h : Has w w.heap.size A (u8s b)) (hbc : b.length ≤ c) (B : Option Addr) (hB : B = if c = p then A else A.map (·.add p)) : Has w w.heap.size B (u8s (b.drop p)) := by
  have h1 := h.cut (k := p) (size := 1) (cap := c) (n := b.length) (by rw [u8s_length]; omega) hbc
  rw [Nat.mul_one] at h1
  have e : u8s (b.drop p) = (u8s b).drop p := by simp [u8s, List.map_drop]
  rw [e, hB]
  exact h1
theorem own_keep {w w' : World} {base size n : Nat} {e : TypeId} {v : Value} {xs : List Value} {row : Option Nat} (h : w.ownsRow base e size v n xs) (hg : w.grownBy w' row) (hne : ∀ k, v.ownBlock = some k → some k ≠ row) : w'.ownsRow base e size v n xs := by
  refine ⟨h.1, ?_⟩
  rcases h.2 with h2 | ⟨g, cap, cur, rfl, hb, hgg, rest⟩
  · exact .inl h2
  · exact .inr ⟨g, cap, cur, rfl, hb, (hg.block g (Array.getElem?_eq_some_iff.1 hgg).1 (hne g rfl)).trans hgg, rest⟩
theorem own_apart {w : World} {base base' size size' n n' : Nat} {e e' : TypeId} {v v' : Value} {xs xs' : List Value} (h : w.ownsRow base e size v n xs) (h' : w.ownsRow base' e' size' v' n' xs') (he : e ≠ e') : ∀ k, v.ownBlock = some k → some k ≠ v'.ownBlock := by
  intro k hk hk'
  rcases h.2 with ⟨rfl, _⟩ | ⟨g, cap, cur, rfl, _, hg, _⟩
  · cases hk
  · rcases h'.2 with ⟨rfl, _⟩ | ⟨g', cap', cur', rfl, _, hg', _⟩
    · cases hk'
    · injection hk with hk
      injection hk' with hk'
      have e1 : g = g' := by
        have : g = k := hk
        have h2 : k = g' := hk'
        omega
      subst e1
      rw [hg] at hg'
      injection hg' with hg'
      injection hg' with _ hg'
      exact he hg'
/-- rows of bytes, each a row of the call's own -/
inductive RecsOwn (w : World) (base : Nat) : List Value → List (List Nat) → Prop
  | nil : RecsOwn w base [] []
  | cons {A : Option Addr} {c : Nat} {r : List Nat} {vs : List Value} {rs : List (List Nat)} : w.ownsRow base 5 1 (.slice A r.length c) r.length (u8s r) → RecsOwn w base vs rs → RecsOwn w base (.slice A r.length c :: vs) (r :: rs)
theorem RecsOwn.next {w w' : World} {base : Nat} {vs : List Value} {rs : List (List Nat)} (h : RecsOwn w base vs rs) (hb : Below w.heap.size w w') : RecsOwn w' base vs rs := by
  induction h with
  | nil => exact .nil
  | cons h1 _ ih => exact .cons (own_next h1 hb) ih
theorem RecsOwn.grown {w w' : World} {base b2 size n : Nat} {v : Value} {xs : List Value} {vs : List Value} {rs : List (List Nat)} (h : RecsOwn w base vs rs) (ho : w.ownsRow b2 36 size v n xs) (hg : w.grownBy w' v.ownBlock) : RecsOwn w' base vs rs := by
  induction h with
  | nil => exact .nil
  | cons h1 _ ih => exact .cons (own_keep h1 hg (own_apart h1 ho (by decide))) ih
theorem RecsOwn.snoc {w : World} {base : Nat} {vs : List Value} {rs : List (List Nat)} {A : Option Addr} {c : Nat} {r : List Nat} (h : RecsOwn w base vs rs) (h' : w.ownsRow base 5 1 (.slice A r.length c) r.length (u8s r)) : RecsOwn w base (vs ++ [.slice A r.length c]) (rs ++ [r]) := by
  induction h with
  | nil => exact .cons h' .nil
  | cons h1 _ ih => exact .cons h1 ih
theorem RecsOwn.at {w : World} {base : Nat} {vs : List Value} {rs : List (List Nat)} (h : RecsOwn w base vs rs) : RecsAt w vs rs := by
  induction h with
  | nil => exact .nil
  | cons h1 _ ih =>
    obtain ⟨q1, q2⟩ := own_len h1
    obtain ⟨A5, c5, e5, _, _, _, hn5⟩ := own_form h1
    injection e5 with e51 _ e52
    subst e51 e52
    exact .cons ⟨_, _, rfl, q1, q2, hn5, Has.of_own h1⟩ ih
/-- the records and where they end -/
def CutP (r : List (List Nat) × Nat) (w : World) (v : Value) (w' : World) : Prop :=
  ∃ A c vs, v = .tuple #[.slice A r.1.length c, .int .i64 r.2] ∧ w'.ownsRow w.heap.size 36 1 (.slice A r.1.length c) r.1.length vs ∧ RecsOwn w' w.heap.size vs r.1 ∧ Below w.heap.size w w'
theorem elSl : Elem Try.prog 33 36 1 24 := Elem.mk' (z := .slice none 0 0) Try.underlying33 (by kernel_rfl) rfl (by decide)

set_option maxRecDepth 1000000 in
set_option maxHeartbeats 2000000 in
theorem cut_any (A : Option Addr) (n c : Nat) (b : List Nat) (r : List (List Nat) × Nat) (hr : cutN b = r) (hn : b.length = n) (hnc : n ≤ c) (hc : c ≤ maxLen) (hl : b.length ≤ 1099511627776) (hb : Bytes b) (hnil : A = none → c = 0) (w : World) (hH : Has w w.heap.size A (u8s b)) :
    Calls Try.prog 37 #[.slice A n c] w (RV (CutP r w)) := by
  subst hn
  have HN := Lib.hid hnil; clear hnil
  go_enter Try.func37, Try.ntmps37
  go_wp2_with fail
  go_loopw [4, 5] (fun v i wr => ∃ (p f : Nat) (O : Option Addr) (e : Nat) (rs : List (List Nat)) (vs : List Value), p ≤ b.length ∧ b.length ≤ p + f ∧ rs.length ≤ p ∧ i = .int .i64 (p : Nat) ∧ v = .slice O rs.length e ∧ Hid (r = (rs ++ (cutGo b f p).1, (cutGo b f p).2)) ∧ wr.ownsRow w.heap.size 36 1 (.slice O rs.length e) rs.length vs ∧ RecsOwn wr w.heap.size vs rs ∧ Below w.heap.size w wr) (fun _ i _ => b.length + 5 - (intOf i).toNat)
  case atStart => exact ⟨0, b.length, none, 0, [], [], by omega, by omega, by simp, rfl, rfl, Lib.hid (by rw [← hr]; rfl), ⟨rfl, .inl ⟨rfl, rfl⟩⟩, .nil, Below.refl _ _⟩
  case round =>
    obtain ⟨p, f, O, e, rs, vs, hp, hf, hrs, rfl, rfl, hm, hown, hrec, hbr⟩ := hrel
    have hbs := hbr.size
    obtain ⟨F, hF⟩ : ∃ F, firstN (b.drop p) = F := ⟨_, rfl⟩
    have hdl : (b.drop p).length = b.length - p := List.length_drop
    have hdb : Bytes (b.drop p) := fun y hy => hb y (List.mem_of_mem_drop hy)
    have hFb := first_bytes hdb
    rw [hF] at hFb
    have hpc : (p : Int) ≤ (b.length : Int) := by omega
    have hpc2 : (p : Int) ≤ (c : Int) := by omega
    have hFp := Lib.hid (show RV (FirstP F wr) = RV (FirstP (firstN (b.drop p)) wr) by rw [hF])
    rcases hok : F.2.2 with _ | _
    · have hE : cutGo b f p = ([], p) := by
        cases f with
        | zero => rfl
        | succ f => rw [cutGo, hF, if_neg (by rw [hok]; simp)]
      have hm2 := Lib.hid (show r = (rs, p) by rw [hm.out, hE]; simp)
      have Hdl := Lib.hid hdl; clear hdl
      have Hok := Lib.hid hok; clear hok
      have hown := Lib.hid hown
      clear hF hE
      go_wp2_with fail
      all_goals
        refine (first_any _ _ _ (b.drop p) (by rw [Hdl.out]) (by omega) (by rw [Hdl.out]; omega) hdb _ (by exact cutB (hH.next hbr) hnc _ (by first | rw [if_pos (by assumption)] | rw [if_neg (by assumption)]))).mono ?_
        rw [← hFp.out]
        rintro e' w3 ⟨v, rfl, A3, c3, rfl, ho3, hb3⟩
        rw [Hok.out]
        go_wp2_with fail
        go_ret2
        rw [hm2.out]
        exact RV.mk ⟨O, e, vs, rfl, own_next hown.out hb3, hrec.next hb3, bnext hbr hb3⟩
    · have hlt : p < b.length := by
        have h9 := first_ok (b := b.drop p) (by rw [hF]; exact hok)
        rw [hF, hdl] at h9
        omega
      have h9 := first_ok (b := b.drop p) (by rw [hF]; exact hok)
      rw [hF, hdl] at h9
      obtain ⟨h91, h92, h93, _⟩ := h9
      obtain ⟨f, rfl⟩ : ∃ f', f = f' + 1 := ⟨f - 1, by omega⟩
      have hE : cutGo b (f + 1) p = (F.1 :: (cutGo b f (p + F.2.1)).1, (cutGo b f (p + F.2.1)).2) := by rw [cutGo, hF, if_pos hok]
      have hm2 := Lib.hid (show r = ((rs ++ [F.1]) ++ (cutGo b f (p + F.2.1)).1, (cutGo b f (p + F.2.1)).2) by rw [hm.out, hE]; simp)
      obtain ⟨ad, rfl, _, _⟩ := hH.at (u8s_at (show 0 < b.length by omega))
      have Hdl := Lib.hid hdl; clear hdl
      have Hok := Lib.hid hok; clear hok
      have hown := Lib.hid hown
      have hcp : ¬ c = p := by omega
      clear hF hE
      go_wp2_with fail
      refine (first_any _ _ _ (b.drop p) (by rw [Hdl.out]) (by omega) (by rw [Hdl.out]; omega) hdb _ (by exact cutB (hH.next hbr) hnc _ (by first | rw [if_pos (by assumption)] | (rw [if_neg (by assumption)]; rfl)))).mono ?_
      rw [← hFp.out]
      rintro e' w3 ⟨v, rfl, A3, c3, rfl, ho3, hb3⟩
      rw [Hok.out]
      have ho3' := Lib.hid (own_less ho3 (Nat.le_trans hbr.size (Nat.le_refl _))); clear ho3
      have hown3 := own_next hown.out hb3
      have hrec3 := Lib.hid (hrec.next hb3)
      have hb3' := bnext hbr hb3
      have hs3 := hb3'.size
      go_wp2_with (at_builtin; refine wpList_append1 rfl _ _ _ rfl elSl rfl hown3 rfl rfl rfl ?_ ?k1 ?k2 ?k3 ?k4; intro A4 c4 w4 hown4 hgrow hb4)
      case k1 => first | rfl | (intro u hu; simp at hu; subst hu; rfl)
      case k2 => omega
      case k3 => unfold maxLen; omega
      case k4 => omega
      have hown4 := Lib.hid hown4
      have hrv := Lib.hid ((hrec3.out.grown hown3 hgrow).snoc (own_keep ho3'.out hgrow (own_apart ho3'.out hown3 (by decide))))
      go_roundw
      case rel => exact ⟨p + F.2.1, f, A4, c4, rs ++ [F.1], vs ++ [.slice A3 F.1.length c3], by omega, by omega, by rw [List.length_append]; simp; omega, by go_num, by rw [List.length_append]; rfl, hm2, by rw [List.length_append]; exact hown4.out, hrv.out, hb3'.trans hb4⟩
      case measure => simp [intOf]; omega
end Go.Proofs.Ytkcfhfplppdnnaa
