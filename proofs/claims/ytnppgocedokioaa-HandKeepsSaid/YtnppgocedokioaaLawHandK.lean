/- The walk of the law HandKeeps: it returns true. Conditions: the arguments fit their kinds. -/
import Derived.Test.YtnppgocedokioaaHandAc
import Derived.Test.YtnppgocedokioaaEqI64
import Derived.Test.YtnppgocedokioaaCmpI
namespace Go.Proofs.Ytnppgocedokioaa
open Go.RowKit

theorem Blk.outK {S : Nat → Prop} {w w' : World} {b : Nat} {t : TypeId} {cs : Array Value} (h : Blk w b t cs) (ho : Out S w w') (hb : ¬ S b) : Blk w' b t cs := (ho.block b h.lt hb).trans h
theorem HSt.ltK {w : World} {S : Nat → Prop} {g : Nat} {s : Hnd} (h : HSt w S g s) : ∀ k, S k → k < w.heap.size := by obtain ⟨A, N, L, a, n, l, h⟩ := h; exact h.lt
theorem below_newK {w : World} (cs : Array Value) (t : TypeId) : Below w.heap.size w (w.alloc (.cells cs t)) := (Below.refl _ _).alloc (Nat.le_refl _) _
theorem own_out {S : Nat → Prop} {w w' : World} {base size n : Nat} {e : TypeId} {v : Value} {xs : List Value} (h : w.ownsRow base e size v n xs) (ho : Out S w w') (hd : ∀ k, v.ownBlock = some k → ¬ S k) : w'.ownsRow base e size v n xs := by
  refine ⟨h.1, ?_⟩
  rcases h.2 with h2 | ⟨q, cap, cur, rfl, hb, hgg, rest⟩
  · exact .inl h2
  · exact .inr ⟨q, cap, cur, rfl, hb, (ho.block q (Array.getElem?_eq_some_iff.1 hgg).1 (hd q rfl)).trans hgg, rest⟩
theorem HSt.grownK {w w' : World} {S : Nat → Prop} {g : Nat} {s : Hnd} {row : Option Nat} (h : HSt w S g s) (hg : w.grownBy w' row) (hd : ∀ q, row = some q → ¬ S q) : HSt w' S g s :=
  h.nextS (T := fun k => row = some k) (Out.grown hg (fun _ hk => hk)) (fun k hs hk => hd k hk hs)
theorem insI_perm (l : List Int) (x : Int) : (insI l x).Perm (x :: l) := by
  induction l with
  | nil => exact List.Perm.refl _
  | cons y l ih =>
    unfold insI
    split
    · exact (ih.cons y).trans (List.Perm.swap _ _ _)
    · exact List.Perm.refl _
theorem up_le {l : List Int} (h : UpI l) : l.Pairwise (· ≤ ·) := h.imp (fun h => Int.le_of_lt h)
theorem act_new {s : Hnd} {a : Mv} (h : a.k = 1 ∧ (actH s a).2 = 0) : a.id ∉ s.has ∧ (actH s a).1.has = insI s.has a.id := by
  obtain ⟨h1, h2⟩ := h
  unfold actH at h2 ⊢
  rw [if_pos h1] at h2 ⊢
  unfold wrH at h2 ⊢
  by_cases g1 : a.ep ≠ s.ep
  · rw [if_pos g1] at h2; cases h2
  rw [if_neg g1] at h2 ⊢
  by_cases g2 : a.id ∈ s.has
  · rw [if_pos g2] at h2; cases h2
  rw [if_neg g2] at h2 ⊢
  by_cases g3 : s.has.length = 1000
  · rw [if_pos g3] at h2; cases h2
  rw [if_neg g3]
  exact ⟨g2, rfl⟩
theorem act_old {s : Hnd} (hk : OkH s) {a : Mv} (h : ¬ (a.k = 1 ∧ (actH s a).2 = 0)) : (actH s a).1.has = s.has := by
  unfold actH at h ⊢
  by_cases h1 : a.k = 1
  · rw [if_pos h1] at h ⊢
    unfold wrH at h ⊢
    by_cases g1 : a.ep ≠ s.ep
    · rw [if_pos g1]
    rw [if_neg g1] at h ⊢
    by_cases g2 : a.id ∈ s.has
    · rw [if_pos g2]
    rw [if_neg g2] at h ⊢
    by_cases g3 : s.has.length = 1000
    · rw [if_pos g3]
    rw [if_neg g3] at h
    exact absurd ⟨h1, rfl⟩ h
  rw [if_neg h1]
  by_cases h2 : a.k = 2
  · rw [if_pos h2]; unfold prepH; split; · rfl
    split; · rfl
    split <;> rfl
  rw [if_neg h2]
  by_cases h3 : a.k = 3
  · rw [if_pos h3]; unfold copyH; simp only []; split; · rfl
    split <;> rfl
  rw [if_neg h3]
  by_cases h4 : a.k = 4
  · rw [if_pos h4]; exact cut_has hk
  rw [if_neg h4]
  split
  · unfold abortH; split <;> rfl
  · rfl
theorem sort_ins {l : List Int} (hu : UpI l) {x : Int} (hx : x ∉ l) : sortI (l ++ [x]) = insI l x :=
  sort_eq (List.perm_append_comm.trans (insI_perm l x).symm) (up_le (insI_up hu hx))
theorem sort_up {l : List Int} (hu : UpI l) : sortI l = l := sort_eq (List.Perm.refl _) (up_le hu)
theorem i64s_snoc (l : List Int) (x : Int) : i64s (l ++ [x]) = i64s l ++ (#[Value.int .i64 x] : Array Value).toList := by simp [i64s, i64v]
theorem i64s_oneK (l : List Int) : ∀ u ∈ i64s l, u.oneCell' = true := by
  intro u hu
  simp only [i64s, List.mem_map] at hu
  obtain ⟨b, _, rfl⟩ := hu
  rfl

set_option maxRecDepth 1000000 in
set_option maxHeartbeats 16000000 in
theorem keeps_any (w : World) (owner : ByteArray) (hown : owner.size ≤ maxLen) (B : Option Addr) (m d : Nat) (L : List Mv) (hL : L.length = m) (hm : m ≤ d) (hd : d ≤ maxLen) (hB : Has w w.heap.size B (mvCs L)) (hok : ∀ e ∈ L, e.ok) :
    Calls Try.prog 7 #[.string owner, .slice B m d] w (R1 (.bool true) (Below w.heap.size w)) := by
  have hm63 : m ≤ 9223372036854775807 := by unfold maxLen at hd; omega
  have HL := Lib.hid hL
  have HB := Lib.hid hB
  have HOK := Lib.hid hok
  clear hL hB hok hd
  have hf0 : ∀ (x y z u : Value) (w : World), (Instr.field 52 (.agg #[x, y, z, u]) 0).run Try.prog w = .ok x w := fun _ _ _ _ _ => by kernel_rfl
  go_enter Try.func7, Try.ntmps7
  go_wp2_with fail
  refine (hands_true _).mono ?_
  rintro e0 w1 ⟨rfl, hb1⟩
  go_wp2_with fail
  refine (hnew_any owner w1 hown).mono ?_
  rintro e0 w2 ⟨v, rfl, ⟨_, rfl, hst, hb2'⟩ | ⟨_, rfl, hw2⟩⟩
  · have hb2 := bnext hb1 hb2'
    obtain ⟨g, hg⟩ : ∃ g, w1.heap.size = g := ⟨_, rfl⟩
    rw [hg] at hst ⊢
    have hgw : w.heap.size ≤ g := by rw [← hg]; exact hb1.size
    have Hst := Lib.hid hst
    clear hst hb2'
    by_cases h80 : (80 : Int) < (m : Int)
    · go_wp2_with fail
      go_ret
      exact R1.mk (by simp) hb2
    · go_wp2_with fail
      go_loopw [7, 47] (fun o i wr => ∃ (k n : Nat) (S : Nat → Prop) (s : Hnd) (O : Option Addr) (e : Nat), k ≤ m ∧ i = .int .i64 (k : Nat) ∧ o = .slice O n e ∧ Hid (s.has.length = n) ∧ Hid (OkH s) ∧ Hid (HSt wr S g s) ∧ Hid (∀ k, S k → w.heap.size ≤ k) ∧ Hid (wr.ownsRow w.heap.size 2 1 (.slice O n e) n (i64s s.has)) ∧ Hid (∀ q, (Value.slice O n e).ownBlock = some q → ¬ S q) ∧ Below w.heap.size w wr) (fun _ i _ => m - (intOf i).toNat)
      case atStart => exact ⟨0, 0, _, newH owner, none, 0, by omega, rfl, rfl, Lib.hid rfl, Lib.hid (okH_new owner), Hst, Lib.hid (fun k hk => by rw [hk]; exact hgw), Lib.hid ⟨rfl, .inl ⟨rfl, rfl⟩⟩, Lib.hid (fun q hq => by cases hq), hb2⟩
      case round =>
        obtain ⟨k, n, S, s, O, e, hk, rfl, rfl, hsn, hks, hst, hS, hrow, hdis, hbr⟩ := hrel
        have hn1000 : n ≤ 1000 := by rw [← hsn.out]; exact hks.out.len
        by_cases hlt : (k : Int) < (m : Int)
        · have l1 := Lib.hid (show k < L.length by rw [HL.out]; omega)
          obtain ⟨ad, rfl, had, c0, c1, c2, c3, c4⟩ := (HB.out.next hbr).mvAt l1.out
          have hao := Lib.hid (HOK.out _ (at_mem l1.out))
          obtain ⟨a, ha⟩ : ∃ a, at_ L k = a := ⟨_, rfl⟩
          rw [ha] at c0 c1 c2 c3 c4 hao
          clear ha
          have kb : Blk (wr.alloc (.cells (mvA a) 47)) wr.heap.size 47 (mvA a) := Blk.new _ _ _
          have hbx := below_newK (w := wr) (mvA a) 47
          have hbS : ¬ S wr.heap.size := fun h => by have := HSt.ltK hst.out _ h; omega
          go_wp2_with fail
          obtain ⟨wa, hwa⟩ : ∃ wa, wr.alloc (.cells (mvA a) 47) = wa := ⟨_, rfl⟩
          rw [hwa] at kb hbx
          rw [hwa]
          obtain ⟨b, hb⟩ : ∃ b, wr.heap.size = b := ⟨_, rfl⟩
          have Hsta := Lib.hid (hst.out.next hbx)
          have hrowa := Lib.hid (own_next hrow.out hbx)
          have hbra := bnext hbr hbx
          have hobk := Lib.hid (fun q hq => (own_blockM hrow.out q hq).2)
          have hsza := hbx.size
          rw [hb] at kb hbS hobk hsza ⊢
          clear hwa hbx c0 c1 c2 c3 c4
          obtain ⟨⟨s', f⟩, hact⟩ : ∃ r, actH s a = r := ⟨_, rfl⟩
          have HA := Lib.hid (act_any S g s hks.out a hao.out wa Hsta.out)
          have hks' := Lib.hid (show OkH s' by have := okH_act hks.out a; rw [hact] at this; exact this)
          rw [hact] at HA
          have Hact := Lib.hid hact
          clear hact hb
          refine (HA.out).mono ?_
          rintro e0 w5 ⟨rfl, S', hst5, hold5, hout5⟩
          have hbw5 : Below w.heap.size w w5 := hbra.trans (hout5.below hbra.size hS.out)
          have hS' := Lib.hid (show ∀ k, S' k → w.heap.size ≤ k from fun k hk => by
            rcases hold5 k hk with h1 | h1
            · exact hS.out k h1
            · have := hbra.size; omega)
          have kb5 := kb.outK hout5 hbS
          have hrow5 := Lib.hid (own_out hrowa.out hout5 hdis.out)
          have hdis5 := Lib.hid (show ∀ q, (Value.slice O n e).ownBlock = some q → ¬ S' q from fun q hq hs => by
            rcases hold5 q hs with h1 | h1
            · exact hdis.out q hq h1
            · have := hobk.out q hq; omega)
          have Hst5 := Lib.hid hst5
          clear hst5 hold5 hout5 kb hst hrow hrowa Hsta hbra HA
          have d0 : w5.cell? ⟨b, 0, none⟩ = some (.int .i64 a.k) := kb5.cell 0
          have d2 : w5.cell? ⟨b, 2, none⟩ = some (.int .i64 a.id) := kb5.cell 2
          by_cases hnew : a.k = 1 ∧ f = 0
          · obtain ⟨hid, hins⟩ := act_new (s := s) (a := a) (by rw [Hact.out]; exact hnew)
            rw [Hact.out] at hins
            have Hins := Lib.hid (show sortI (s.has ++ [a.id]) = s'.has by rw [sort_ins hks.out.up hid]; exact hins.symm)
            rw [hnew.1] at d0
            have hf0' := hnew.2
            subst hf0'
            have hownA := hrow5.out.alloc (.cells #[.int .i64 a.id] 2)
            have hfr := Has.fresh w5 #[Value.int .i64 a.id] 2
            have hbA := below_newK (w := w5) #[.int .i64 a.id] 2
            clear hid hins hnew
            go_wp2_with (at_builtin; refine wpList_spreadM rfl _ _ _ rfl elI64 rfl hownA rfl hfr ?_ ?k1 ?k2 ?k3 ?k4 ?k5; intro A6 e6 w6 hown6 hgrow6 hb6 hblk6)
            case k1 => rfl
            case k2 => first | rfl | exact ⟨rfl⟩ | (intro u hu; simp at hu; subst hu; rfl)
            case k3 => omega
            case k4 => unfold maxLen; omega
            case k5 => exact Nat.le_trans hbw5.size hbA.size
            have hbw6 : Below w.heap.size w w6 := (bnext hbw5 hbA).trans hb6
            have Hst6 := Lib.hid ((Hst5.out.next hbA).grownK hgrow6 (fun q hq => hdis5.out q hq))
            have hdis6 := Lib.hid (show ∀ q, (Value.slice A6 (n + 1) e6).ownBlock = some q → ¬ S' q from fun q hq hs => by
              rcases hblk6 with h1 | h1
              · exact hdis5.out q (show (Value.slice O n e).ownBlock = some q from h1.symm.trans hq) hs
              · rw [h1] at hq
                injection hq with hq
                have := HSt.ltK Hst5.out q hs
                rw [World.size_alloc] at hq
                omega)
            have hrow6 := Lib.hid (show w6.ownsRow w.heap.size 2 1 (.slice A6 (n + 1) e6) (n + 1) (i64s (s.has ++ [a.id])) by rw [i64s_snoc]; exact hown6)
            have hlen6 := Lib.hid (show (s.has ++ [a.id]).length = n + 1 by rw [List.length_append, hsn.out]; rfl)
            have hn6 := Lib.hid (show s'.has.length = n + 1 by rw [← Hins.out, sortI_len]; exact hlen6.out)
            have hn61 : n + 1 ≤ 1000 := by rw [← hn6.out]; exact hks'.out.len
            clear hown6 hgrow6 hb6 hblk6 hownA hfr hbA hrow5 hdis5 Hst5 d0 d2 kb5
            have HV := Lib.hid (fun (w : World) (h : HSt w S' g s') => view_any S' g s' w h)
            have HRd := Lib.hid (fun (w : World) (h : HSt w S' g s') => hread_any S' g s' hks'.out s'.ep w h)
            rw [show readH s' s'.ep = (s'.has, 0) from if_neg (fun h => h rfl)] at HRd
            unfold viewA at HV
            go_wp2_with fail
            refine (HV.out _ Hst6.out).mono ?_
            rintro e0 w7 ⟨rfl, hb7⟩
            have Hst7 := Lib.hid (Hst6.out.next hb7)
            have hrow7 := Lib.hid (own_next hrow6.out hb7)
            have hbw7 := bnext hbw6 hb7
            have hlt7 := Lib.hid (fun q hq => (own_blockM hrow7.out q hq).2)
            clear hrow6 Hst6 hb7
            go_wp2_with fail
            refine (HRd.out _ Hst7.out).mono ?_
            rintro e0 w8 ⟨v, rfl, A8, c8, rfl, hown8, hb8⟩
            simp only [hn6.out] at hown8 ⊢
            have Hst8 := Lib.hid (Hst7.out.next hb8)
            have hrow8 := Lib.hid (own_next hrow7.out hb8)
            have hbw8 := bnext hbw7 hb8
            have Hown8 := Lib.hid hown8
            have HSo := Lib.hid (sortI_any (s.has ++ [a.id]) hlen6.out (by omega) w8 hrow8.out)
            rw [Hins.out] at HSo
            clear hrow7 Hst7 hb8 hown8
            go_wp2_with fail
            refine (HSo.out).mono ?_
            rintro e0 w9 ⟨rfl, ho9, hg9⟩
            have Hst9 := Lib.hid (Hst8.out.grownK hg9 hdis6.out)
            have hbw9 : Below w.heap.size w w9 := hbw8.grown hg9 hbw8.size (fun q hq => (own_blockM hrow8.out q hq).1)
            have hX9 := Lib.hid (Has.grownI (Has.of_own Hown8.out) hg9 (fun ad e h2 => by
              have h3 := hlt7.out ad.block h2
              have h4 := (own_blockM Hown8.out ad.block (by rw [e]; rfl)).1
              omega))
            have hrow9 := Lib.hid ho9
            have HE := Lib.hid (equalI64_any A8 (A6) (n + 1) (n + 1) c8 (e6) s'.has s'.has hn6.out hn6.out (by unfold maxLen; omega) (by unfold maxLen; omega) w9 hX9.out (Has.of_own ho9))
            rw [decide_eq_true rfl] at HE
            clear ho9 hg9 hrow8 Hst8 Hown8
            go_wp2_with fail
            refine (HE.out).mono ?_
            rintro e0 w10 ⟨rfl, hdr⟩
            have hb10 := drawn_below hdr
            have Hend := Lib.hid (show ∃ (k_1 nx : Nat) (S : Nat → Prop) (s : Hnd) (Ox : Option Addr) (ex : Nat), k_1 ≤ m ∧ Value.int .i64 ((k : Int) + 1) = .int .i64 (k_1 : Nat) ∧ Value.slice (A6) (n + 1) (e6) = .slice Ox nx ex ∧ Hid (s.has.length = nx) ∧ Hid (OkH s) ∧ Hid (HSt w10 S g s) ∧ Hid (∀ k, S k → w.heap.size ≤ k) ∧ Hid (w10.ownsRow w.heap.size 2 1 (.slice Ox nx ex) nx (i64s s.has)) ∧ Hid (∀ q, (Value.slice Ox nx ex).ownBlock = some q → ¬ S q) ∧ Below w.heap.size w w10 from ⟨k + 1, (n + 1), S', s', A6, e6, by omega, by go_num, rfl, hn6, hks', Lib.hid (Hst9.out.next hb10), hS', Lib.hid (own_next hrow9.out hb10), hdis6, bnext hbw9 hb10⟩)
            go_wp2_with fail
            go_roundw
            case rel => exact Hend.out
            case measure => simp [intOf]; omega
          · have hold := act_old hks.out (a := a) (by rw [Hact.out]; exact hnew)
            rw [Hact.out] at hold
            have Hins := Lib.hid (show sortI s.has = s'.has by rw [sort_up hks.out.up]; exact hold.symm)
            have hn6 := Lib.hid (show s'.has.length = n by rw [← Hins.out, sortI_len]; exact hsn.out)
            have hd : (decide (f = 0) && decide (a.k = 1)) = false := by
              rw [Bool.and_eq_false_iff, decide_eq_false_iff_not, decide_eq_false_iff_not]
              rcases Decidable.em (f = 0) with h1 | h1
              · exact .inr (fun h2 => hnew ⟨h2, h1⟩)
              · exact .inl h1
            obtain ⟨kk, hkk⟩ : ∃ kk, a.k = kk := ⟨_, rfl⟩
            rw [hkk] at d0 hnew
            obtain ⟨w6, rfl⟩ : ∃ w6, w6 = w5 := ⟨_, rfl⟩
            have hbw6 := hbw5
            have Hst6 := Hst5
            have hdis6 := hdis5
            have hrow6 := hrow5
            have hlen6 := hsn
            clear hold hrow5 hdis5 Hst5 hbw5
            by_cases hff : f = 0
            · subst hff
              have hk1 : (kk == 1) = false := by rw [beq_eq_false_iff_ne]; exact fun h => hnew ⟨h, rfl⟩
              clear hnew hd
              have HV := Lib.hid (fun (w : World) (h : HSt w S' g s') => view_any S' g s' w h)
              have HRd := Lib.hid (fun (w : World) (h : HSt w S' g s') => hread_any S' g s' hks'.out s'.ep w h)
              rw [show readH s' s'.ep = (s'.has, 0) from if_neg (fun h => h rfl)] at HRd
              unfold viewA at HV
              go_wp2_with fail
              refine (HV.out _ Hst6.out).mono ?_
              rintro e0 w7 ⟨rfl, hb7⟩
              have Hst7 := Lib.hid (Hst6.out.next hb7)
              have hrow7 := Lib.hid (own_next hrow6.out hb7)
              have hbw7 := bnext hbw6 hb7
              have hlt7 := Lib.hid (fun q hq => (own_blockM hrow7.out q hq).2)
              clear hrow6 Hst6 hb7
              go_wp2_with fail
              refine (HRd.out _ Hst7.out).mono ?_
              rintro e0 w8 ⟨v, rfl, A8, c8, rfl, hown8, hb8⟩
              simp only [hn6.out] at hown8 ⊢
              have Hst8 := Lib.hid (Hst7.out.next hb8)
              have hrow8 := Lib.hid (own_next hrow7.out hb8)
              have hbw8 := bnext hbw7 hb8
              have Hown8 := Lib.hid hown8
              have HSo := Lib.hid (sortI_any (s.has) hlen6.out (by omega) w8 hrow8.out)
              rw [Hins.out] at HSo
              clear hrow7 Hst7 hb8 hown8
              go_wp2_with fail
              refine (HSo.out).mono ?_
              rintro e0 w9 ⟨rfl, ho9, hg9⟩
              have Hst9 := Lib.hid (Hst8.out.grownK hg9 hdis6.out)
              have hbw9 : Below w.heap.size w w9 := hbw8.grown hg9 hbw8.size (fun q hq => (own_blockM hrow8.out q hq).1)
              have hX9 := Lib.hid (Has.grownI (Has.of_own Hown8.out) hg9 (fun ad e h2 => by
                have h3 := hlt7.out ad.block h2
                have h4 := (own_blockM Hown8.out ad.block (by rw [e]; rfl)).1
                omega))
              have hrow9 := Lib.hid ho9
              have HE := Lib.hid (equalI64_any A8 (O) (n) (n) c8 (e) s'.has s'.has hn6.out hn6.out (by unfold maxLen; omega) (by unfold maxLen; omega) w9 hX9.out (Has.of_own ho9))
              rw [decide_eq_true rfl] at HE
              clear ho9 hg9 hrow8 Hst8 Hown8
              go_wp2_with fail
              refine (HE.out).mono ?_
              rintro e0 w10 ⟨rfl, hdr⟩
              have hb10 := drawn_below hdr
              have Hend := Lib.hid (show ∃ (k_1 nx : Nat) (S : Nat → Prop) (s : Hnd) (Ox : Option Addr) (ex : Nat), k_1 ≤ m ∧ Value.int .i64 ((k : Int) + 1) = .int .i64 (k_1 : Nat) ∧ Value.slice (O) (n) (e) = .slice Ox nx ex ∧ Hid (s.has.length = nx) ∧ Hid (OkH s) ∧ Hid (HSt w10 S g s) ∧ Hid (∀ k, S k → w.heap.size ≤ k) ∧ Hid (w10.ownsRow w.heap.size 2 1 (.slice Ox nx ex) nx (i64s s.has)) ∧ Hid (∀ q, (Value.slice Ox nx ex).ownBlock = some q → ¬ S q) ∧ Below w.heap.size w w10 from ⟨k + 1, (n), S', s', O, e, by omega, by go_num, rfl, hn6, hks', Lib.hid (Hst9.out.next hb10), hS', Lib.hid (own_next hrow9.out hb10), hdis6, bnext hbw9 hb10⟩)
              go_wp2_with fail
              go_roundw
              case rel => exact Hend.out
              case measure => simp [intOf]; omega
            · have hf1 : (f == 0) = false := by rw [beq_eq_false_iff_ne]; exact hff
              clear hnew hd
              have HV := Lib.hid (fun (w : World) (h : HSt w S' g s') => view_any S' g s' w h)
              have HRd := Lib.hid (fun (w : World) (h : HSt w S' g s') => hread_any S' g s' hks'.out s'.ep w h)
              rw [show readH s' s'.ep = (s'.has, 0) from if_neg (fun h => h rfl)] at HRd
              unfold viewA at HV
              go_wp2_with fail
              refine (HV.out _ Hst6.out).mono ?_
              rintro e0 w7 ⟨rfl, hb7⟩
              have Hst7 := Lib.hid (Hst6.out.next hb7)
              have hrow7 := Lib.hid (own_next hrow6.out hb7)
              have hbw7 := bnext hbw6 hb7
              have hlt7 := Lib.hid (fun q hq => (own_blockM hrow7.out q hq).2)
              clear hrow6 Hst6 hb7
              go_wp2_with fail
              refine (HRd.out _ Hst7.out).mono ?_
              rintro e0 w8 ⟨v, rfl, A8, c8, rfl, hown8, hb8⟩
              simp only [hn6.out] at hown8 ⊢
              have Hst8 := Lib.hid (Hst7.out.next hb8)
              have hrow8 := Lib.hid (own_next hrow7.out hb8)
              have hbw8 := bnext hbw7 hb8
              have Hown8 := Lib.hid hown8
              have HSo := Lib.hid (sortI_any (s.has) hlen6.out (by omega) w8 hrow8.out)
              rw [Hins.out] at HSo
              clear hrow7 Hst7 hb8 hown8
              go_wp2_with fail
              refine (HSo.out).mono ?_
              rintro e0 w9 ⟨rfl, ho9, hg9⟩
              have Hst9 := Lib.hid (Hst8.out.grownK hg9 hdis6.out)
              have hbw9 : Below w.heap.size w w9 := hbw8.grown hg9 hbw8.size (fun q hq => (own_blockM hrow8.out q hq).1)
              have hX9 := Lib.hid (Has.grownI (Has.of_own Hown8.out) hg9 (fun ad e h2 => by
                have h3 := hlt7.out ad.block h2
                have h4 := (own_blockM Hown8.out ad.block (by rw [e]; rfl)).1
                omega))
              have hrow9 := Lib.hid ho9
              have HE := Lib.hid (equalI64_any A8 (O) (n) (n) c8 (e) s'.has s'.has hn6.out hn6.out (by unfold maxLen; omega) (by unfold maxLen; omega) w9 hX9.out (Has.of_own ho9))
              rw [decide_eq_true rfl] at HE
              clear ho9 hg9 hrow8 Hst8 Hown8
              go_wp2_with fail
              refine (HE.out).mono ?_
              rintro e0 w10 ⟨rfl, hdr⟩
              have hb10 := drawn_below hdr
              have Hend := Lib.hid (show ∃ (k_1 nx : Nat) (S : Nat → Prop) (s : Hnd) (Ox : Option Addr) (ex : Nat), k_1 ≤ m ∧ Value.int .i64 ((k : Int) + 1) = .int .i64 (k_1 : Nat) ∧ Value.slice (O) (n) (e) = .slice Ox nx ex ∧ Hid (s.has.length = nx) ∧ Hid (OkH s) ∧ Hid (HSt w10 S g s) ∧ Hid (∀ k, S k → w.heap.size ≤ k) ∧ Hid (w10.ownsRow w.heap.size 2 1 (.slice Ox nx ex) nx (i64s s.has)) ∧ Hid (∀ q, (Value.slice Ox nx ex).ownBlock = some q → ¬ S q) ∧ Below w.heap.size w w10 from ⟨k + 1, (n), S', s', O, e, by omega, by go_num, rfl, hn6, hks', Lib.hid (Hst9.out.next hb10), hS', Lib.hid (own_next hrow9.out hb10), hdis6, bnext hbw9 hb10⟩)
              go_wp2_with fail
              go_roundw
              case rel => exact Hend.out
              case measure => simp [intOf]; omega
        · have hkm : k = m := by omega
          subst hkm
          have H1 := Lib.hid (cloneI64_any O n e (i64s s.has) (by rw [i64s_len, hsn.out, Nat.mul_one]) (i64s_oneK _) (fun h => own_cap hrow.out h) (by omega) wr (Has.of_own hrow.out))
          clear HB HOK Hst
          go_wp2_with fail
          refine (H1.out).mono ?_
          rintro e0 w3 ⟨v, rfl, A3, c3, rfl, hown3, hb3⟩
          have H2 := Lib.hid (compactI_any s.has hsn.out (by omega) w3 hown3)
          have hob3 := fun q hq => (own_blockM hown3 q hq).1
          have hs3 := hb3.size
          clear hown3
          go_wp2_with fail
          refine (H2.out).mono ?_
          rintro e0 w4 ⟨v, rfl, rfl, _, hg4⟩
          rw [compact_up hks.out.up, hsn.out]
          have hb4 := bnext hbr (hb3.grown hg4 hs3 hob3)
          go_wp2_with fail
          go_ret
          exact R1.mk (by simp) hb4
  · go_wp2_with fail
    go_ret
    exact R1.mk (by simp) (by first | exact hb1 | (rw [hw2]; exact hb1))
theorem handKeeps_true (w : World) (owner : ByteArray) (sz : owner.size ≤ maxLen) (A : Option Addr) (c : Nat) (L : List Mv) (ok : ∀ e ∈ L, e.ok) (lc : L.length ≤ c) (cm : c ≤ maxLen) (_ : A = none → c = 0) (has : Has w w.heap.size A (mvCs L)) (_ : L.length * 48 ≤ 140737488351232) :
    Calls Try.prog 7 #[.string owner, .slice A L.length c] w (R1 (.bool true) (Below w.heap.size w)) :=
  keeps_any w owner sz A _ c L rfl lc cm has ok
end Go.Proofs.Ytnppgocedokioaa
