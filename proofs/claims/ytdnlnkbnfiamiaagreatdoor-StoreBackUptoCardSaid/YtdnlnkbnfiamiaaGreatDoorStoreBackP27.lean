/- Texts of the proof of StoreBack, joined (by merge.py). Conditions: each theorem's own hypotheses. -/
import Derived.Test.YtdnlnkbnfiamiaaGreatDoorStoreBackP5
import Derived.Test.YtdnlnkbnfiamiaaGreatDoorStoreBackP14
import Derived.Test.YtdnlnkbnfiamiaaGreatDoorStoreBackP17
import Derived.Test.YtdnlnkbnfiamiaaGreatDoorStoreBackP20
import Derived.Test.YtdnlnkbnfiamiaaGreatDoorStoreBackP24
import Derived.Test.YtdnlnkbnfiamiaaGreatDoorStoreBackP26
import Derived.Deep.CutRange
namespace Go.Proofs.YtdnlnkbnfiamiaaGreatDoor
open Go.RowKit Go.ChangeMaps Go.Maps Go.Sort Go.Shelf

theorem keysZ_any (mb : Option Nat) (w : World) : Calls Tryz.prog 29 #[.map mb] w (R1 (.func (.func 56) #[] #[.pointer (some ⟨w.heap.size, 0, none⟩)]) (fun w' => w' = w.alloc (.cells #[.map mb] 67))) :=
  callsIn_wide.1 (AnyZ.keys_in Tryz.keysZ Fence.wide 5 trivial rfl mb w)
theorem sortsZ (m : Nat) : AnyZ.SortsIn Tryz.prog Tryz.sortedZ_ren Fence.wide m :=
  ⟨fun blk off cap ss W hH hblk hsz => callsIn_wide.2 (AnyM.slices_Sort_string Tryz.sortZ blk off cap ss W hH hblk hsz),
   fun p cap W => callsIn_wide.2 (AnyM.slices_Sort_string_none Tryz.sortZ p cap W)⟩
set_option maxHeartbeats 1000000 in
theorem sortedZ_any {H : Type} (b nn : Nat) (D0 : DataW H) (R : Value → Option (DataW H × List MemPlace)) (w : World) (hown : w.ownsMap Tryz.prog 9 R b nn D0) (hmax : Maps.size D0 ≤ maxLen) (hbytes : Maps.size D0 * 16 ≤ 140737488355328) :
    Calls Tryz.prog 28 #[.func (.func 56) #[] #[.pointer (some ⟨w.heap.size, 0, none⟩)]] (w.alloc (.cells #[.map (some b)] 67)) fun e w' => ∃ (v : Value) (ss : List (List UInt8)), e = .returned v ∧ ss.Perm (strKeys D0) ∧
      w'.ownsRow (w.alloc (.cells #[.map (some b)] 67)).heap.size 9 1 v ss.length ((ss.mergeSort (fun x y => decide (x ≤ y))).map encStr) ∧ (v = .slice none 0 0 ↔ ss = []) ∧ Below (w.alloc (.cells #[.map (some b)] 67)).heap.size (w.alloc (.cells #[.map (some b)] 67)) w' := by
  have hbl := hown.lt
  have hseq : SeqGives Fence.wide 2 Tryz.prog 56 #[.pointer (some ⟨w.heap.size, 0, none⟩)] encStr (fun ss => ss.Perm (strKeys D0)) (Maps.size D0) (w.alloc (.cells #[.map (some b)] 67)) :=
    AnyZ.keys_gives (ρ := Tryz.keysZ_ren) { Tryz.keysZ with } Fence.wide _ trivial rfl (by omega) w.heap.size b nn D0 _ (by simp) (by simp) (by
      obtain ⟨es, clock, hb, Ft, hs, hD⟩ := hown
      exact ⟨es, clock, (Below.heap_alloc _ _ b hbl).trans hb, Ft, hs, hD⟩)
  exact callsIn_wide.1 (AnyZ.sorted_in Tryz.sortedZ Fence.wide 5 trivial trivial trivial trivial rfl (by omega) (sortsZ _) (enters_of Tryz.func55 (by kernel_rfl) rfl) 56 #[.pointer (some ⟨w.heap.size, 0, none⟩)] trivial (enters_of Tryz.func56 (by kernel_rfl) rfl) _ _ hmax hbytes _ hseq)
/-- the keys, sorted -/
def keysS (st : StD) : List ByteArray := (sortS (st.map (·.1))).map fun l => ⟨l.toArray⟩
theorem keysS_cells (st : StD) : (sortS (st.map (·.1))).map encStr = strCs (keysS st) := by
  unfold keysS strCs
  generalize sortS (st.map (·.1)) = X
  induction X with
  | nil => rfl
  | cons x X ih => rw [List.map_cons, List.map_cons, List.flatMap_cons, ih]; rfl
theorem keysS_len (st : StD) : (keysS st).length = st.length := by unfold keysS; rw [List.length_map, sortS_len, List.length_map]
def KeysP (st : StD) (w : World) (v : Value) (w' : World) : Prop :=
  ∃ A n c, v = .slice A n c ∧ st.length = n ∧ w'.ownsRow w.heap.size 9 1 (.slice A n c) n (strCs (keysS st)) ∧ Below w.heap.size w w'
set_option maxRecDepth 100000 in
theorem sortedK_any {w : World} {base g b dg : Nat} {A : Option Addr} {c : Nat} {es : Array MapEntry} {clock : Nat} {kvs : List (Value × Value)} {dk : List Nat} {sf : Int} {st : StD} (h : StAt w base g b dg A c es clock kvs dk sf st) (hl : st.length < 200) :
    Calls Tryz.prog 28 #[.func (.func 56) #[] #[.pointer (some ⟨w.heap.size, 0, none⟩)]] (w.alloc (.cells #[.map (some b)] 67)) (RV (KeysP st (w.alloc (.cells #[.map (some b)] 67)))) := by
  have hes := h.size
  have hF := h.shape.fit (by unfold maxLen; omega)
  have hsz : ((es.toList.map (WideElems.rg (H := Unit) Tryz.prog 9 (fun _ => some (.nil, [])))).foldr DataW.insert []).length = es.size := length_read es
  refine (sortedZ_any (H := Unit) b es.size _ _ w ⟨es, clock, h.mp, hF, Nat.le_refl _, rfl⟩ (by show List.length _ ≤ _; rw [hsz]; unfold maxLen; omega) (by show List.length _ * 16 ≤ _; rw [hsz]; omega)).mono ?_
  rintro e w' ⟨v, ss, rfl, hp, ho, hv, hb⟩
  have hkeys : ss.Perm (strL (st.map (·.1))) := by
    refine hp.trans ?_
    show (List.map _ _).Perm _
    refine ((WideShapes.sorted_perm _).map _).trans ?_
    rw [List.map_map]
    have e1 : strL (st.map (·.1)) = es.toList.map (fun e => match e.key with | .string s => s.data.toList | _ => []) := by
      have h1 : es.toList.map (·.key) = st.map (fun p => Value.string p.1) := by
        rw [← h.rows.keys, ← h.shape.pairs, List.map_map]; rfl
      have h2 := congrArg (List.map (fun v : Value => match v with | .string s => s.data.toList | _ => [])) h1
      rw [List.map_map, List.map_map] at h2
      unfold strL
      rw [List.map_map]
      exact h2.symm
    rw [e1]
    refine List.Perm.of_eq (List.map_congr_left fun x hx => ?_)
    obtain ⟨y, hy⟩ := hF.reads x hx
    have hk := WideElems.rd_key hy
    obtain ⟨s, hs, hs2, _⟩ := Maps.keyOf_str Tryz.underlying9 hk
    show strOf (WideElems.rg _ _ _ x).1 = _
    unfold WideElems.rg
    rw [hy, hs]
    show strOf y.1 = _
    rw [hs2]
    simp [encStr, strOf]
  have hss : ss.mergeSort (fun x y => decide (x ≤ y)) = sortS (st.map (·.1)) := mergeSort_of_perm hkeys
  have hlen : ss.length = st.length := by rw [hkeys.length_eq]; unfold strL; rw [List.length_map, List.length_map]
  rw [hss, keysS_cells] at ho
  obtain ⟨A5, c5, e5, _⟩ := own_form ho
  rw [e5] at ho
  exact ⟨_, rfl, A5, ss.length, c5, e5, hlen.symm, ho, hb⟩
end Go.Proofs.YtdnlnkbnfiamiaaGreatDoor
namespace Go.Proofs.YtdnlnkbnfiamiaaGreatDoor
open Go.RowKit Go.ChangeMaps

/-- rows of series -/
def serCs (es : List (Value × Value)) : List Value := es.flatMap fun p => [p.1, p.2]
theorem serCs_len (es : List (Value × Value)) : (serCs es).length = es.length * 2 := flat_len (f := fun p : Value × Value => [p.1, p.2]) (C := 2) (fun _ => rfl) es
inductive SerRow (w : World) (base : Nat) : List (Value × Value) → List Ser → Prop
  | nil : SerRow w base [] []
  | cons {u v : Value} {y : Ser} {es : List (Value × Value)} {l : List Ser} : SerOwn w base (.agg #[u, v]) y → SerRow w base es l → SerRow w base ((u, v) :: es) (y :: l)
theorem SerRow.keep {w w' : World} {base : Nat} {es : List (Value × Value)} {l : List Ser} (h : SerRow w base es l) (hk : ∀ v y, SerOwn w base v y → SerOwn w' base v y) : SerRow w' base es l := by
  induction h with
  | nil => exact .nil
  | cons h1 _ ih => exact .cons (hk _ _ h1) ih
theorem SerRow.next {w w' : World} {base : Nat} {es : List (Value × Value)} {l : List Ser} (h : SerRow w base es l) (hb : Below w.heap.size w w') : SerRow w' base es l := h.keep fun _ _ k => k.next hb
theorem SerRow.len {w : World} {base : Nat} {es : List (Value × Value)} {l : List Ser} (h : SerRow w base es l) : es.length = l.length := by
  induction h with
  | nil => rfl
  | cons _ _ ih => simp [ih]
theorem SerRow.snoc {w : World} {base : Nat} {es : List (Value × Value)} {l : List Ser} {u v : Value} {y : Ser} (h : SerRow w base es l) (h1 : SerOwn w base (.agg #[u, v]) y) : SerRow w base (es ++ [(u, v)]) (l ++ [y]) := by
  induction h with
  | nil => exact .cons h1 .nil
  | cons h2 _ ih => exact .cons h2 ih
theorem SerRow.less {w : World} {base b2 : Nat} {es : List (Value × Value)} {l : List Ser} (h : SerRow w base es l) (hb : b2 ≤ base) : SerRow w b2 es l := by
  induction h with
  | nil => exact .nil
  | cons h1 _ ih => exact .cons (h1.less hb) ih
/-- all series -/
def serAt (st : StD) (k : ByteArray) : Ser := (findSt st k).getD ([], [])
def allN (st : StD) : List Ser := (keysS st).map (serAt st)
theorem allN_len (st : StD) : (allN st).length = st.length := by unfold allN; rw [List.length_map, keysS_len]
def AllP (l : List Ser) (w : World) (v : Value) (w' : World) : Prop :=
  ∃ A n c es, v = .slice A n c ∧ l.length = n ∧ w'.ownsRow w.heap.size 42 2 (.slice A n c) n (serCs es) ∧ SerRow w' w.heap.size es l ∧ Below w.heap.size w w'
theorem elSer : Elem Tryz.prog 32 42 2 48 := Elem.mk' (z := .agg #[.slice none 0 0, .slice none 0 0]) Tryz.underlying32 (by kernel_rfl) rfl (by decide)
theorem strCs_atS {l : List ByteArray} {k : Nat} {x : ByteArray} (h : l[k]? = some x) : (strCs l)[k]? = some (.string x) := by
  have e : strCs l = l.map Value.string := by
    unfold strCs
    induction l with
    | nil => rfl
    | cons x l ih => rw [List.flatMap_cons, List.map_cons]; simp [strC]; clear ih h; induction l with
      | nil => rfl
      | cons y l ih => rw [List.flatMap_cons, List.map_cons, ih]; rfl
  rw [e, List.getElem?_map, h]
  rfl
theorem step_append1s {P : Program} {w : World} {ops : Array Oper} {o : Oper} {a : Act} {K : Act → World → Prop} {Q : Exit → Act → World → Prop} {F : Prop} (hgd : o.guard = none) (s x : Operand) (t : TypeId)
    (ho : o.op = .call { callee := .builtin .append, args := #[s, x], argTypes := #[t, t] })
    {base size bytes : Nat} {e : TypeId} (E : Elem P t e size bytes) {v : Value} {n : Nat} {xs : List Value} (hown : w.ownsRow base e size v n xs) (hs : a.eval s = v)
    {B c : Nat} (hx : a.eval x = .slice (some ⟨B, 0, none⟩) 1 c) {cs : Array Value} {e' : TypeId} {fr : Nat × Nat} (hb : w.heap[B]? = some (.cells cs e' fr)) (hl : cs.size = size)
    (h1 : ∀ u ∈ cs.toList, u.oneCell' = true) (hmax : (n + 1) * bytes ≤ 140737488355328) (h63 : n + 1 ≤ maxLen) (hbase : base ≤ w.heap.size)
    (h : ∀ g c' w', w'.ownsRow base e size (.slice (some ⟨g, 0, none⟩) (n + 1) c') (n + 1) (xs ++ cs.toList) → w.grownBy w' v.ownBlock → Below base w w' → K (a.put o.dst (.slice (some ⟨g, 0, none⟩) (n + 1) c')) w') :
    if Region.wanted o (yielded ops a.tmps) = true then Oper.wp P o a w K Q else F := by
  obtain ⟨ht, ⟨i, z, hi, hz, hsize, hby, hzs⟩, hsz⟩ := E
  exact step_append_lies (w := w) hgd s x t ho base e i z size bytes ht hi hz hsize hby hzs hsz v n xs hs hown ⟨B, 0, none⟩ 1 c cs.toList hx (by simpa using hl) (World.news_of_block hb) h1 (by omega) h63 hmax hbase w.heap.size rfl
    (fun g cap w' k1 k2 _ _ => h _ _ _ k1 k2 (grown_below hown k2 hbase))
theorem SerOwn.zero (w : World) (base : Nat) : SerOwn w base (.agg #[.slice none 0 0, .slice none 0 0]) ([], []) := ⟨none, 0, 0, none, 0, 0, rfl, rfl, rfl, World.ownsRow_nil _ _ _ _, World.ownsRow_nil _ _ _ _⟩
theorem ser_look {w : World} {base g b dg : Nat} {A : Option Addr} {c : Nat} {es : Array MapEntry} {clock : Nat} {kvs : List (Value × Value)} {dk : List Nat} {sf : Int} {st : StD} (h : StAt w base g b dg A c es clock kvs dk sf st) (hok : StOk st) (key : ByteArray) (hk : key.size ≤ maxLen) :
    ∃ A1 n1 c1 A2 n2 c2, (Instr.lookup 67 (.map (some b)) (.string key) false).run Tryz.prog w = .ok (.agg #[.slice A1 n1 c1, .slice A2 n2 c2]) w ∧ (serAt st key).1.length = n1 ∧ (serAt st key).2.length = n2 ∧ n1 ≤ 10 ∧ n2 ≤ 1000 ∧ w.ownsRow base 73 2 (.slice A1 n1 c1) n1 (labCs (serAt st key).1) ∧ w.ownsRow base 27 2 (.slice A2 n2 c2) n2 (smpCs (serAt st key).2) := by
  have hl := MpS.look strKey Tryz.underlying67 (z := .agg #[.slice none 0 0, .slice none 0 0]) (fun u => by kernel_rfl) h.mp h.shape (str_keyed key hk) false
  simp only [Bool.false_eq_true, if_false] at hl
  rcases hl with ⟨hno, hr⟩ | ⟨v0, hm, hr⟩
  · have e : serAt st key = ([], []) := by unfold serAt; rw [find_none (h.rows.none hno)]; rfl
    rw [e]
    exact ⟨none, 0, 0, none, 0, 0, hr, rfl, rfl, by omega, by omega, World.ownsRow_nil _ _ _ _, World.ownsRow_nil _ _ _ _⟩
  · obtain ⟨y, hy, A1, n1, c1, A2, n2, c2, rfl, h1, h2, h3, h4⟩ := h.rows.mem hm
    have e : serAt st key = y := by unfold serAt; rw [find_of_mem h.keysNodup hy]; rfl
    obtain ⟨_, k2, k3, _⟩ := hok.2 _ hy
    rw [e]
    exact ⟨A1, n1, c1, A2, n2, c2, hr, h1, h2, by rw [← h1]; exact k3, by rw [← h2]; exact Nat.le_of_lt k2, h3, h4⟩
theorem keysS_mem {st : StD} {k : ByteArray} (h : k ∈ keysS st) : k ∈ st.map (·.1) := by
  unfold keysS at h
  obtain ⟨l, hl, rfl⟩ := List.mem_map.1 h
  unfold sortS strL at hl
  have h2 := (List.mergeSort_perm _ _).mem_iff.1 hl
  obtain ⟨s, hs, rfl⟩ := List.mem_map.1 h2
  simpa using hs
/-- keys of a store are of a string's size -/
def KeyOk (st : StD) : Prop := ∀ p ∈ st, p.1.size ≤ maxLen
end Go.Proofs.YtdnlnkbnfiamiaaGreatDoor
namespace Go.Proofs.YtdnlnkbnfiamiaaGreatDoor
open Go.RowKit Go.ChangeMaps

theorem below_drewT {B : Nat} {a w : World} (h : Below B a w) : Below B a w.drew := below_drewN h 1
theorem below_allocT {B : Nat} {a w : World} (h : Below B a w) (hB : B ≤ w.heap.size) (o : Obj) : Below B a (w.alloc o) := h.alloc hB o
theorem below_allocU {a w : World} (h : Below a.heap.size a w) (o : Obj) : Below a.heap.size a (w.alloc o) := h.alloc h.size o
theorem keepTA {w W : World} {g : Nat} {t : TypeId} {x y : Value} (hk : Blk w g t #[x, y]) (hb : Below w.heap.size w W) : W.cell? ⟨g, 0, none⟩ = some x ∧ W.cell? ⟨g, 1, none⟩ = some y := ⟨(hk.next hb).cell 0, (hk.next hb).cell 1⟩
theorem own_nil {w : World} {base size n c : Nat} {e : TypeId} {xs : List Value} (h : w.ownsRow base e size (.slice none n c) n xs) : n = 0 ∧ c = 0 := by
  rcases h.2 with ⟨e, h2⟩ | ⟨g, cap, cur, e, _⟩
  · injection e with _ _ e3
    exact ⟨h2, e3⟩
  · injection e with e1
    cases e1
theorem SerOwn.grown {w w' : World} {base b2 size n : Nat} {v v' : Value} {y : Ser} {xs : List Value} (h : SerOwn w base v y) (ho : w.ownsRow b2 42 size v' n xs) (hg : w.grownBy w' v'.ownBlock) : SerOwn w' base v y := by
  obtain ⟨A, n, c, A', n', c', h1, h2, h3, h4, h5⟩ := h
  exact ⟨A, n, c, A', n', c', h1, h2, h3, own_keep h4 hg (own_apart h4 ho (by decide)), own_keep h5 hg (own_apart h5 ho (by decide))⟩
set_option maxRecDepth 1000000 in
set_option maxHeartbeats 8000000 in
theorem all_any (base g : Nat) (dk : List Nat) (sf : Int) (st : StD) (hok : StOk st) (hkeys : KeyOk st) (w : World) (hS : StM w base g dk sf st) :
    Calls Tryz.prog 12 #[.pointer (some ⟨g, 0, none⟩)] w (RV (AllP (allN st) w)) := by
  obtain ⟨b, dg, DA, dc, es, clock, kvs, hS⟩ := hS
  have hbe : Below w.heap.size w (w.alloc (.cells #[.map (some b)] 67)) := one_allocB _ _
  have hKs := Lib.hid (sortedK_any hS hok.1)
  have o0 : w.cell? ⟨g, 0, none⟩ = some (.map (some b)) := hS.obj.cell 0
  have Hok := Lib.hid hok
  have Hkeys := Lib.hid hkeys
  have HS := Lib.hid hS
  clear hS hok hkeys
  go_enter Tryz.func12, Tryz.ntmps12
  go_wp2_with fail
  refine (keysZ_any _ _).mono ?_
  rintro e w1 ⟨rfl, rfl⟩
  go_wp2_with fail
  refine hKs.out.mono ?_
  rintro e w1 ⟨v, rfl, KA, m, kc, rfl, hm, hoK, hb1⟩
  have hb01 := Lib.hid (bnext hbe hb1)
  have Hm := Lib.hid hm
  have hHK := Lib.hid (Has.of_own hoK)
  have hoK := Lib.hid hoK
  clear hm hb1 hbe o0
  have hm200 : m < 200 := by rw [← Hm.out]; exact Hok.out.1
  go_wp2_with fail
  go_loopw [14, 3] (fun i out wr => ∃ (j : Nat) (A3 : Option Addr) (c3 : Nat) (es3 : List (Value × Value)), j ≤ m ∧ i = .int .i64 (j : Nat) ∧ out = .slice A3 j c3 ∧ Hid (wr.ownsRow w1.heap.size 42 2 (.slice A3 j c3) j (serCs es3)) ∧ Hid (SerRow wr w1.heap.size es3 ((allN st).take j)) ∧ Hid (Below w1.heap.size w1 wr)) (fun i _ _ => m - (intOf i).toNat)
  case atStart => exact ⟨0, none, 0, [], by omega, rfl, rfl, Lib.hid (World.ownsRow_nil _ _ _ _), Lib.hid (by rw [List.take_zero]; exact .nil), Lib.hid (Below.refl _ _)⟩
  case round =>
    obtain ⟨j, A3, c3, es3, hj, rfl, rfl, hoR, hR, hbr⟩ := hrel
    have hbwr := Lib.hid (bnext hb01.out hbr.out)
    by_cases hjm : j < m
    · have hkl : j < (keysS st).length := by rw [keysS_len, Hm.out]; exact hjm
      obtain ⟨key, hkey⟩ : ∃ key, (keysS st)[j]? = some key := ⟨_, List.getElem?_eq_getElem hkl⟩
      have hksz : key.size ≤ maxLen := by
        obtain ⟨p, hp, e⟩ := List.mem_map.1 (keysS_mem (List.mem_of_getElem? hkey))
        rw [← e]; exact Hkeys.out p hp
      obtain ⟨kad, rfl, _, kc0⟩ := (hHK.out.next hbr.out).at (strCs_atS hkey)
      have hSr := HS.out.next hbwr.out
      obtain ⟨A1, n1, c1, A2, n2, c2, hlk, e1, e2, l1, l2, ho1, ho2⟩ := ser_look hSr Hok.out key hksz
      have htake := Lib.hid (show (allN st).take (j + 1) = (allN st).take j ++ [serAt st key] by
        unfold allN
        rw [List.take_add_one]
        rw [List.getElem?_map, hkey]
        rfl)
      obtain ⟨y, hy⟩ : ∃ y, serAt st key = y := ⟨_, rfl⟩
      rw [hy] at htake e1 e2 ho1 ho2
      have o0 : wr.cell? ⟨g, 0, none⟩ = some (.map (some b)) := hSr.obj.cell 0
      have hSr := Lib.hid hSr
      have E1 := Lib.hid e1
      have E2 := Lib.hid e2
      have ho1 := Lib.hid ho1
      have ho2 := Lib.hid ho2
      clear e1 e2 hy hkl hkey
      go_upto_region 6 with fail
      obtain ⟨W6, hW6⟩ : ∃ W6, wr.alloc (.cells #[.slice A1 n1 c1, .slice A2 n2 c2] 42) = W6 := ⟨_, rfl⟩
      obtain ⟨q6, hq6⟩ : ∃ q6, wr.heap.size = q6 := ⟨_, rfl⟩
      have hb6 : Below wr.heap.size wr W6 := by rw [← hW6]; exact one_allocB _ _
      have k6 : Blk W6 q6 42 #[.slice A1 n1 c1, .slice A2 n2 c2] := by rw [← hW6]; exact Blk.newD _ _ _ _ hq6
      rw [hW6, hq6]
      have HC1 := Lib.hid (fun (w' : World) (hb : Below W6.heap.size W6 w') => cloneCLab_any A1 n1 c1 (labCs y.1) (by rw [labCs_len, E1.out]) (labCs_oneC _) (fun e => by subst e; exact own_nil (own_next ho1.out hb6)) (by omega) w' ((Has.of_own (own_next ho1.out hb6)).next hb))
      have HC2 := Lib.hid (fun (w' : World) (hb : Below W6.heap.size W6 w') => cloneCSmp_any A2 n2 c2 (smpCs y.2) (by rw [smpCs_len, E2.out]) (smpCs_oneC _) (fun e => by subst e; exact own_nil (own_next ho2.out hb6)) (by omega) w' ((Has.of_own (own_next ho2.out hb6)).next hb))
      have x0 : W6.cell? ⟨q6, 0, none⟩ = some (.slice A1 n1 c1) := k6.cell 0
      have x1 : W6.cell? ⟨q6, 1, none⟩ = some (.slice A2 n2 c2) := k6.cell 1
      have hoR6 := own_next hoR.out hb6
      have hb16 : w1.heap.size ≤ W6.heap.size := Nat.le_trans hbr.out.size hb6.size
      have Hb6 := Lib.hid hb6
      have hneR : some q6 ≠ (Value.slice A3 j c3).ownBlock := fun e => by have := (own_block hoR.out q6 e.symm).2; omega
      have HW6 := Lib.hid hW6
      clear hW6 hq6 hb6 o0 hlk kc0
      go_region_held_law (fun w' => w'.cell? ⟨q6, 0, none⟩ = some (.slice A1 n1 c1) ∧ w'.cell? ⟨q6, 1, none⟩ = some (.slice A2 n2 c2))
        (first | exact ⟨kE.cell 0, kE.cell 1⟩ | (refine keepTA k6 ?_; (repeat' (first | with_reducible exact Below.refl _ _ | with_reducible exact hbC | with_reducible exact hbS | with_reducible refine below_drewT ?_ | with_reducible refine below_allocU ?_ _))); done)
        (first
          | (have hz := hownB
             apply step_append1s rfl (.tmp 24) (.tmp 32) 32 rfl elSer (v := .slice A3 j c3) (n := j) (base := w1.heap.size) (xs := serCs es3); (case hown => (repeat' (first | with_reducible exact hoR8 | with_reducible refine World.ownsRow.alloc ?_ _)); done); (case hs => rfl); (case hx => rfl); (case hb => exact heap_alloc_new _ _); (case hl => rfl); (case h1 => (intro u hu; simp at hu; rcases hu with rfl | rfl <;> rfl)); (case hmax => omega); (case h63 => (unfold maxLen; omega)); (case hbase => exact Nat.le_trans hb18 (one_allocB _ _).size)
             intro g5 c5 w5 hown5 hgrow5 hbel5
             have kE : Blk w5 q6 42 #[.slice A1 n1 c1, .slice A2 n2 c2] := Blk.grown ((k6.next hbS).alloc _) hgrow5 hneR)
          | (have hz := hownA
             go_at_call 31
             refine (HC2.out _ (by (repeat' (first | with_reducible exact Below.refl _ _ | with_reducible exact hbC | with_reducible refine below_drewT ?_)); done)).mono ?_
             rintro e9 w8 ⟨v8, rfl, A8, c8, rfl, hownB, hbB⟩
             have hbS : Below W6.heap.size W6 w8 := bnext (by (repeat' (first | with_reducible exact hbC | with_reducible refine below_drewT ?_)); done) hbB
             have hoR8 : World.ownsRow w8 w1.heap.size 42 2 (.slice A3 j c3) j (serCs es3) := own_next hoR6 hbS
             have hb18 : w1.heap.size ≤ w8.heap.size := Nat.le_trans hb16 hbS.size)
          | (go_at_call 30
             refine (HC1.out _ (by (repeat' (first | with_reducible exact Below.refl _ _ | with_reducible refine below_drewT ?_)); done)).mono ?_
             rintro e9 w7 ⟨v7, rfl, A7, c7, rfl, hownA, hbA⟩
             have hbC : Below W6.heap.size W6 w7 := bnext (by (repeat' (first | with_reducible exact Below.refl _ _ | with_reducible refine below_drewT ?_)); done) hbA))
      all_goals
        have hb6w := Hb6.out
        have hbE : Below wr.heap.size wr w8 := bnext hb6w hbS
        have h7o : World.ownsRow w8 w1.heap.size 73 2 (.slice A7 n1 c7) n1 (labCs y.1) := own_next (own_less hownA (Nat.le_trans hb16 (by first | exact Nat.le_refl _ | exact Below.size (Below.refl W6.heap.size W6)))) hbB
        have h8o : World.ownsRow w8 w1.heap.size 27 2 (.slice A8 n2 c8) n2 (smpCs y.2) := own_less hownB (Nat.le_trans hb16 hbC.size)
        have hS8 : SerRow w8 w1.heap.size (es3 ++ [(.slice A7 n1 c7, .slice A8 n2 c8)]) ((allN st).take (j + 1)) := by
          rw [htake.out]
          exact (hR.out.next hbE).snoc ⟨A7, n1, c7, A8, n2, c8, rfl, E1.out, E2.out, h7o, h8o⟩
        have hS5 := Lib.hid ((hS8.next (one_allocB w8 (.cells #[.slice A7 n1 c7, .slice A8 n2 c8] 42))).keep fun v y h => h.grown (World.ownsRow.alloc hoR8 _) hgrow5)
        have ho5 := Lib.hid hown5
        have hb5 := Lib.hid (show Below w1.heap.size w1 w5 from hbr.out.trans ((hbE.mono hbr.out.size).trans (((one_allocB w8 (.cells #[.slice A7 n1 c7, .slice A8 n2 c8] 42)).mono hb18).trans hbel5)))
        clear hS8 h7o h8o hbE hb6w kE
        go_wp2_with fail
        go_roundw
        case rel => exact ⟨j + 1, some ⟨g5, 0, none⟩, c5, es3 ++ [(.slice A7 n1 c7, .slice A8 n2 c8)], by omega, by go_num, rfl, (by have := ho5.out; exact Lib.hid (by unfold serCs; rw [List.flatMap_append]; exact this)), hS5, hb5⟩
        case measure => simp [intOf]; omega
    · obtain rfl : j = m := by omega
      have htake := Lib.hid (show (allN st).take j = allN st from List.take_of_length_le (by rw [allN_len, Hm.out]; exact Nat.le_refl _))
      go_wp2_with fail
      go_ret
      have hR' := hR.out
      rw [htake.out] at hR'
      exact RV.mk ⟨A3, j, c3, es3, rfl, by rw [allN_len]; exact Hm.out, own_less hoR.out hb01.out.size, hR'.less hb01.out.size, hbwr.out⟩
end Go.Proofs.YtdnlnkbnfiamiaaGreatDoor
namespace Go.Proofs.YtdnlnkbnfiamiaaGreatDoor
open Go.RowKit

theorem smpIn_zero : SmpIn ⟨0, 0⟩ := by unfold SmpIn in64; simp
theorem StOk.nil : StOk [] := ⟨by decide, fun _ h => by cases h⟩
theorem enc_zero : encN [] ⟨0, 0⟩ = (recN [] ⟨0, 0⟩, 0) := by
  unfold encN
  rw [if_neg (by decide), if_neg (by decide)]
def st1 : StD := [(txL [], ([], [⟨0, 0⟩]))]
theorem put_zero : putN ([], []) [] ⟨0, 0⟩ = ((st1, frameL (recN [] ⟨0, 0⟩)), 0) := by
  unfold putN
  rw [enc_zero, if_neg (by simp)]
  rfl
theorem st1_ok : StOk st1 := ⟨by decide, fun p hp => by
  unfold st1 at hp
  simp at hp
  subst hp
  exact ⟨chkS_one _, by simp, by simp, by simp⟩⟩
theorem st1_keys : KeyOk st1 := fun p hp => by
  unfold st1 at hp
  simp at hp
  subst hp
  have := txtB_size (chkM_asM (show chkL [] = 0 by decide))
  show (txL []).size ≤ maxLen
  unfold maxLen txL
  omega
set_option maxRecDepth 100000 in
set_option maxHeartbeats 1000000 in
theorem stores_true (w : World) (tS : SgAt w) : Calls Tryz.prog 7 #[] w (R1 (.bool true) (Below w.heap.size w)) := by
  have HS := Lib.hid tS
  clear tS
  go_enter Tryz.func7, Tryz.ntmps7
  go_wp2_with fail
  refine (snew_any w).mono ?_
  rintro e w1 ⟨v, rfl, g, rfl, hM1, hb1⟩
  go_wp2_with fail
  refine (put_store w.heap.size g [] 0 [] StOk.nil (by simp) none 0 0 [] rfl (by omega) (fun _ => ⟨rfl, rfl⟩) ⟨0, 0⟩ smpIn_zero (by simp) w1 hM1 hb1.size (Has.nil _ _ _) (HS.out.next hb1)).mono ?_
  rintro e w2 ⟨rfl, hM2, hO2⟩
  rw [put_zero] at hM2 ⊢
  simp only [] at hM2 ⊢
  have hb2 := hO2.below
  go_wp2_with fail
  refine (all_any w.heap.size g _ 0 st1 st1_ok st1_keys w2 hM2).mono ?_
  rintro e w3 ⟨v, rfl, A, n, c, es, rfl, hn, _, _, hb3⟩
  rw [allN_len] at hn
  have hn : 1 = n := hn
  subst hn
  go_wp2_with fail
  go_ret
  exact R1.mk rfl ((hb1.trans hb2).trans (hb3.mono (Nat.le_trans hb1.size hb2.size)))
end Go.Proofs.YtdnlnkbnfiamiaaGreatDoor
namespace Go.Proofs.YtdnlnkbnfiamiaaGreatDoor

theorem dec_rec {L : List Lab} {x : Smp} (h : chkL L = 0) (hx : SmpIn x) (ht : -1152921504606846976 ≤ x.t ∧ x.t ≤ 1152921504606846976) : decN (recN L x) = (L, x, 0) := by
  have hz := zigN_lt (n := x.t) hx.1
  have hv := zigN_lt (n := x.v) hx.2
  have t1 : takeN (recN L x) = (zigN x.t, (putL (zigN x.t)).length, 0) := by
    unfold recN
    rw [List.append_assoc]
    exact takeN_put hz _
  have d1 : dr1 (recN L x) = putL (zigN x.v) ++ sb (txL L) := by
    unfold dr1
    rw [t1]
    unfold recN
    rw [List.append_assoc]
    exact List.drop_left
  have t2 : takeN (dr1 (recN L x)) = (zigN x.v, (putL (zigN x.v)).length, 0) := by
    rw [d1]
    exact takeN_put hv _
  have d2 : dr1 (dr1 (recN L x)) = sb (txL L) := by
    have : dr1 (dr1 (recN L x)) = (dr1 (recN L x)).drop (takeN (dr1 (recN L x))).2.1 := rfl
    rw [this, t2, d1]
    exact List.drop_left
  have he : encN L x = (recN L x, 0) := by
    unfold encN
    rw [if_neg (by rw [h]; simp), if_neg (by omega)]
  rw [decT_on (by rw [t1]) (by rw [t2]), t1, t2, d2]
  simp only []
  rw [zag_zig, zag_zig]
  unfold decT
  rw [bsOf_sb]
  have htx : readL (txL L) = (L, 0) := readL_told h
  rw [htx]
  rw [if_pos ⟨rfl, he⟩]
theorem dec_enc {L : List Lab} {x : Smp} {c : List Nat} (hx : SmpIn x) (h : encN L x = (c, 0)) : decN c = (L, x, 0) := by
  obtain ⟨h1, h2, h3, h4⟩ := enc_ok (L := L) (x := x) (by rw [h])
  rw [h] at h2
  have : c = recN L x := congrArg Prod.fst h2
  rw [this]
  exact dec_rec h1 hx ⟨h3, h4⟩
theorem enc_bad {L : List Lab} {x : Smp} {c : List Nat} {e : Int} (h : encN L x = (c, e)) (he : e ≠ 0) : c = [] := by
  unfold encN at h
  split at h
  · injection h with h _; exact h.symm
  · split at h
    · injection h with h _; exact h.symm
    · injection h with _ h; exact absurd h.symm he
theorem dec_ok {b : List Nat} {L : List Lab} {x : Smp} (h : decN b = (L, x, 0)) : encN L x = (b, 0) := by
  unfold decN at h
  split at h
  · injection h with _ h; injection h with _ h; cases h
  · split at h
    · injection h with _ h; injection h with _ h; cases h
    · unfold decT at h
      split at h
      · rename_i hh
        injection h with h1 h2
        injection h2 with h2 _
        rw [← h1, ← h2]
        exact hh.2
      · injection h with _ h; injection h with _ h; cases h
theorem dec_bad {b : List Nat} {L : List Lab} {x : Smp} {e : Int} (h : decN b = (L, x, e)) (he : e ≠ 0) : L = [] ∧ x = ⟨0, 0⟩ := by
  unfold decN at h
  split at h
  · injection h with h1 h2; injection h2 with h2 _; exact ⟨h1.symm, h2.symm⟩
  · split at h
    · injection h with h1 h2; injection h2 with h2 _; exact ⟨h1.symm, h2.symm⟩
    · unfold decT at h
      split at h
      · injection h with _ h2; injection h2 with _ h3; exact absurd h3.symm he
      · injection h with h1 h2; injection h2 with h2 _; exact ⟨h1.symm, h2.symm⟩
theorem dec_in {b : List Nat} {L : List Lab} {x : Smp} {e : Int} (hb : Bytes b) (h : decN b = (L, x, e)) : SmpIn x := by
  unfold decN at h
  split at h
  · injection h with _ h2; injection h2 with h2 _; rw [← h2]; exact smpIn_zero
  · split at h
    · injection h with _ h2; injection h2 with h2 _; rw [← h2]; exact smpIn_zero
    · unfold decT at h
      split at h
      · injection h with _ h2; injection h2 with h2 _
        rw [← h2]
        have hb1 : Bytes (dr1 b) := bytes_drop hb _
        exact ⟨zagN_in (takeN_lt hb rfl), zagN_in (takeN_lt hb1 rfl)⟩
      · injection h with _ h2; injection h2 with h2 _; rw [← h2]; exact smpIn_zero
end Go.Proofs.YtdnlnkbnfiamiaaGreatDoor
namespace Go.Proofs.YtdnlnkbnfiamiaaGreatDoor
open Go.RowKit

theorem u8s_nil_len {w : World} {base n : Nat} {v : Value} (h : w.ownsRow base 5 1 v n (u8s [])) : n = 0 := by
  have := h.1
  rw [u8s_len, Nat.mul_one] at this
  exact this.symm
theorem eqlSmp (w : World) (a b c d : Int) : (binOp .eql 27 (.agg #[.int .i64 a, .int .i64 b]) (.agg #[.int .i64 c, .int .i64 d])).run Tryz.prog w = .ok (.bool (a == c && b == d)) w := by
  rw [run_eql_struct, run_equalIn_struct w 9999 27 _ _ unSmp shSmp, foSmp]
  simp [Op.eqFields, go_sem]
  by_cases h1 : a = c <;> by_cases h2 : b = d <;> simp [h1, h2]
theorem labOk_of {L : List Lab} (h : chkL L = 0) : ∀ e ∈ L, LabOk e := fun e he => by
  obtain ⟨h1, h2, _⟩ := chkL_iff.1 h
  obtain ⟨h3, h4⟩ := h2 e he
  have h5 := nameOk_le h3
  exact ⟨by unfold maxLen; omega, by unfold maxLen; omega⟩
set_option maxRecDepth 1000000 in
set_option maxHeartbeats 8000000 in
theorem storeBack_any (W : World) (A0 : Option Addr) (c0 : Nat) (L : List Lab) (ok0 : ∀ e ∈ L, LabOk e) (lc0 : L.length ≤ c0) (cm0 : c0 ≤ maxLen) (_nil0 : A0 = none → c0 = 0) (has0 : Has W W.heap.size A0 (labCs L)) (_reach0 : L.length * 32 ≤ 140737488351232)
    (x : Smp) (hx : SmpIn x) (A2 : Option Addr) (c2 : Nat) (b : List Nat) (ok2 : Bytes b) (lc2 : b.length ≤ c2) (cm2 : c2 ≤ maxLen) (nil2 : A2 = none → c2 = 0) (has2 : Has W W.heap.size A2 (u8s b)) (small2 : b.length ≤ 1048576) (tS : SgAt W) :
    Calls Tryz.prog 5 #[.slice A0 L.length c0, .agg #[.int .i64 x.t, .int .i64 x.v], .slice A2 b.length c2] W (R1 (.bool true) (Below W.heap.size W)) := by
  obtain ⟨n, hn⟩ : ∃ n, L.length = n := ⟨_, rfl⟩
  obtain ⟨m, hm⟩ : ∃ m, b.length = m := ⟨_, rfl⟩
  rw [hn] at lc0 ⊢
  rw [hm] at lc2 small2 ⊢
  obtain ⟨W0, hW0⟩ : ∃ W0, W.alloc (.cells #[.int .i64 x.t, .int .i64 x.v] 27) = W0 := ⟨_, rfl⟩
  obtain ⟨q, hq⟩ : ∃ q, W.heap.size = q := ⟨_, rfl⟩
  have hb0 : Below W.heap.size W W0 := by rw [← hW0]; exact one_allocB _ _
  have kx : Blk W0 q 27 #[.int .i64 x.t, .int .i64 x.v] := by rw [← hW0]; exact Blk.newD _ _ _ _ hq
  have HSt := Lib.hid (stores_true W0 (tS.next hb0))
  have HEn := Lib.hid (fun (w1 : World) (hb : Below W.heap.size W w1) => enc_any A0 n c0 L hn (by omega) x hx w1 (has0.next hb) ok0 (tS.next hb))
  have HDb := Lib.hid (fun (w1 : World) (hb : Below W.heap.size W w1) => dec_any A2 m c2 b hm (by omega) lc2 cm2 nil2 ok2 w1 (has2.next hb) (tS.next hb))
  obtain ⟨⟨cc, er⟩, hr⟩ : ∃ r, encN L x = r := ⟨_, rfl⟩
  obtain ⟨⟨ML, y, ed⟩, hd⟩ : ∃ r, decN b = r := ⟨_, rfl⟩
  rw [hr] at HEn
  rw [hd] at HDb
  have hq1 := neqSmp
  have hq2 := guardSmp
  have Hr := Lib.hid hr
  have Hd := Lib.hid hd
  have Hx := Lib.hid hx
  have HW0 := Lib.hid hW0
  have Hq := Lib.hid hq
  have Hn := Lib.hid hn
  have Hm := Lib.hid hm
  have Hh0 := Lib.hid has0
  have Hh2 := Lib.hid has2
  have HS := Lib.hid tS
  have hb0 := Lib.hid hb0
  have ok2 := Lib.hid ok2
  clear hr hd hx hW0 hq hn hm has0 has2 tS ok0 nil2
  go_enter Tryz.func5, Tryz.ntmps5
  go_upto_region 1 with fail
  rw [HW0.out, Hq.out]
  go_wp2_with fail
  refine HSt.out.mono ?_
  rintro e w1 ⟨rfl, hb1⟩
  have kx1 := kx.next hb1
  have x0 : w1.cell? ⟨q, 0, none⟩ = some (.int .i64 x.t) := kx1.cell 0
  have x1 : w1.cell? ⟨q, 1, none⟩ = some (.int .i64 x.v) := kx1.cell 1
  have hb01 := bnext hb0.out hb1
  go_wp2_with fail
  refine (HEn.out _ hb01).mono ?_
  rintro e w2 ⟨v, rfl, A3, n3, c3, rfl, ho3, hb2⟩
  have hb02 := Lib.hid (bnext hb01 hb2)
  have kx2 := kx1.next hb2
  clear x0 x1 kx kx1
  simp only [] at ho3
  by_cases he : er = 0
  · subst he
    have hdec := dec_enc Hx.out Hr.out
    have hn3 : cc.length = n3 := by have h9 := ho3.1; rw [u8s_len, Nat.mul_one] at h9; exact h9
    obtain ⟨q31, q32⟩ := own_len ho3
    have hcl : n3 ≤ 1220 := by
      obtain ⟨h1, h2, _, _⟩ := enc_ok (L := L) (x := x) (by rw [Hr.out])
      have h3 := recN_len h1 Hx.out
      rw [Hr.out] at h2
      have h4 : cc = recN L x := congrArg Prod.fst h2
      rw [← hn3, h4]
      exact h3
    have hcb : Bytes cc := by
      obtain ⟨h1, h2, _, _⟩ := enc_ok (L := L) (x := x) (by rw [Hr.out])
      rw [Hr.out] at h2
      have h4 : cc = recN L x := congrArg Prod.fst h2
      rw [h4]
      exact recN_bytes L x
    have hDc := dec_any A3 n3 c3 cc hn3 (by omega) q31 q32 (fun e => by subst e; exact (own_nil ho3).2) hcb w2 (Has.of_own ho3) (HS.out.next hb02.out)
    rw [hdec] at hDc
    have hDc := Lib.hid hDc
    clear hdec hn3 q31 q32 hcl hcb
    go_wp2_with fail
    refine hDc.out.mono ?_
    rintro e w3 ⟨v, rfl, AL, nl, cl, rfl, hnl, hoL, hb3⟩
    simp only [] at hnl hoL
    have hnn : nl = n := by rw [← hnl]; exact Hn.out
    subst hnn
    have hb03 := bnext hb02.out hb3
    go_upto_region 6 with fail
    obtain ⟨W4, hW4⟩ : ∃ W4, w3.alloc (.cells #[.int .i64 x.t, .int .i64 x.v] 27) = W4 := ⟨_, rfl⟩
    obtain ⟨q4, hq4⟩ : ∃ q4, w3.heap.size = q4 := ⟨_, rfl⟩
    have hb4 : Below w3.heap.size w3 W4 := by rw [← hW4]; exact one_allocB _ _
    have k4 : Blk W4 q4 27 #[.int .i64 x.t, .int .i64 x.v] := by rw [← hW4]; exact Blk.newD _ _ _ _ hq4
    rw [hW4, hq4]
    have kx4 := (kx2.next hb3).next hb4
    have hb04 := bnext hb03 hb4
    have hEq := Lib.hid (sameLabN_any A0 AL nl nl c0 cl L L Hn.out Hn.out (by omega) (by omega) W4 (Hh0.out.next hb04) ((Has.of_own hoL).next hb4))
    rw [decide_eq_true rfl] at hEq
    have hoL := Lib.hid hoL
    go_wp2_with fail
    refine hEq.out.mono ?_
    rintro e w5 ⟨rfl, nd, rfl⟩
    have x0 : W4.cell? ⟨q, 0, none⟩ = some (.int .i64 x.t) := kx4.cell 0
    have x1 : W4.cell? ⟨q, 1, none⟩ = some (.int .i64 x.v) := kx4.cell 1
    have y0 : W4.cell? ⟨q4, 0, none⟩ = some (.int .i64 x.t) := k4.cell 0
    have y1 : W4.cell? ⟨q4, 1, none⟩ = some (.int .i64 x.v) := k4.cell 1
    have f1 : (!(x.t == x.t && x.v == x.v)) = false := by simp
    go_upto_region 10 with fail
    have hbA : Below W.heap.size W ((W4.drewN nd)) := below_drewN hb04 _
    have HdD := HDb.out _ hbA
    generalize W4.drewN nd = wA at hbA HdD ⊢
    by_cases hed : ed = 0
    · subst hed
      have henc := dec_ok Hd.out
      have hxy := dec_in ok2.out Hd.out
      go_wp2_with fail
      refine HdD.mono ?_
      rintro e w6 ⟨v, rfl, AM, nm, cm, rfl, hnm, hoM, hb6⟩
      simp only [] at hnm hoM
      have hbA6 := bnext hbA hb6
      go_upto_region 11 with fail
      obtain ⟨W7, hW7⟩ : ∃ W7, w6.alloc (.cells #[.int .i64 y.t, .int .i64 y.v] 27) = W7 := ⟨_, rfl⟩
      obtain ⟨q7, hq7⟩ : ∃ q7, w6.heap.size = q7 := ⟨_, rfl⟩
      have hb7 : Below w6.heap.size w6 W7 := by rw [← hW7]; exact one_allocB _ _
      have k7 : Blk W7 q7 27 #[.int .i64 y.t, .int .i64 y.v] := by rw [← hW7]; exact Blk.newD _ _ _ _ hq7
      rw [hW7, hq7]
      have hbA7 := bnext hbA6 hb7
      have y0 : W7.cell? ⟨q7, 0, none⟩ = some (.int .i64 y.t) := k7.cell 0
      have y1 : W7.cell? ⟨q7, 1, none⟩ = some (.int .i64 y.v) := k7.cell 1
      obtain ⟨hchk, _, _, _⟩ := enc_ok (L := ML) (x := y) (by rw [henc])
      have hLM := (chkL_iff.1 hchk)
      have hE2 := enc_any AM nm cm ML hnm (by have := hLM.1; unfold maxLen; omega) y hxy W7 ((Has.of_own hoM).next hb7) (labOk_of hchk) (HS.out.next hbA7)
      rw [henc] at hE2
      have hE2 := Lib.hid hE2
      have hoM := Lib.hid hoM
      clear hchk hLM
      go_wp2_with fail
      refine hE2.out.mono ?_
      rintro e w8 ⟨v, rfl, A8, n8, c8, rfl, ho8, hb8⟩
      simp only [] at ho8
      have hbA8 := bnext hbA7 hb8
      have hn8 : b.length = n8 := by have h9 := ho8.1; rw [u8s_len, Nat.mul_one] at h9; exact h9
      have hBe := Lib.hid (bytesEqual_any A8 A2 n8 m c8 c2 b b ok2.out ok2.out hn8 Hm.out w8 (Has.of_own ho8) (Hh2.out.next hbA8))
      rw [decide_eq_true rfl] at hBe
      have ho8 := Lib.hid ho8
      clear hn8 y0 y1
      go_wp2_with fail
      refine hBe.out.mono ?_
      rintro e w9 ⟨rfl, nd9, rfl⟩
      go_wp2_with fail
      go_ret
      exact R1.mk rfl (below_drewN hbA8 _)
    · obtain ⟨rfl, rfl⟩ := dec_bad Hd.out hed
      go_wp2_with fail
      refine HdD.mono ?_
      rintro e w6 ⟨v, rfl, AM, nm, cm, rfl, hnm, hoM, hb6⟩
      simp only [] at hnm hoM
      have hbA6 := bnext hbA hb6
      have hnm : 0 = nm := hnm
      subst hnm
      go_upto_region 11 with fail
      obtain ⟨W7, hW7⟩ : ∃ W7, w6.alloc (.cells #[.int .i64 0, .int .i64 0] 27) = W7 := ⟨_, rfl⟩
      obtain ⟨q7, hq7⟩ : ∃ q7, w6.heap.size = q7 := ⟨_, rfl⟩
      have hb7 : Below w6.heap.size w6 W7 := by rw [← hW7]; exact one_allocB _ _
      have k7 : Blk W7 q7 27 #[.int .i64 0, .int .i64 0] := by rw [← hW7]; exact Blk.newD _ _ _ _ hq7
      rw [hW7, hq7]
      have hbA7 := bnext hbA6 hb7
      have y0 : W7.cell? ⟨q7, 0, none⟩ = some (.int .i64 0) := k7.cell 0
      have y1 : W7.cell? ⟨q7, 1, none⟩ = some (.int .i64 0) := k7.cell 1
      have q3 := eqlSmp
      go_wp2_with fail
      go_ret
      exact R1.mk rfl hbA7
  · have hcc := enc_bad Hr.out he
    subst hcc
    have hn3 := u8s_nil_len ho3
    subst hn3
    go_upto_region 10 with fail
    have hbA : Below W.heap.size W w2 := hb02.out
    have HdD := HDb.out _ hbA
    clear hb02 kx2 ho3
    obtain ⟨wA, hwA⟩ : ∃ wA, w2 = wA := ⟨_, rfl⟩
    rw [hwA] at hbA HdD ⊢
    clear hwA
    by_cases hed : ed = 0
    · subst hed
      have henc := dec_ok Hd.out
      have hxy := dec_in ok2.out Hd.out
      go_wp2_with fail
      refine HdD.mono ?_
      rintro e w6 ⟨v, rfl, AM, nm, cm, rfl, hnm, hoM, hb6⟩
      simp only [] at hnm hoM
      have hbA6 := bnext hbA hb6
      go_upto_region 11 with fail
      obtain ⟨W7, hW7⟩ : ∃ W7, w6.alloc (.cells #[.int .i64 y.t, .int .i64 y.v] 27) = W7 := ⟨_, rfl⟩
      obtain ⟨q7, hq7⟩ : ∃ q7, w6.heap.size = q7 := ⟨_, rfl⟩
      have hb7 : Below w6.heap.size w6 W7 := by rw [← hW7]; exact one_allocB _ _
      have k7 : Blk W7 q7 27 #[.int .i64 y.t, .int .i64 y.v] := by rw [← hW7]; exact Blk.newD _ _ _ _ hq7
      rw [hW7, hq7]
      have hbA7 := bnext hbA6 hb7
      have y0 : W7.cell? ⟨q7, 0, none⟩ = some (.int .i64 y.t) := k7.cell 0
      have y1 : W7.cell? ⟨q7, 1, none⟩ = some (.int .i64 y.v) := k7.cell 1
      obtain ⟨hchk, _, _, _⟩ := enc_ok (L := ML) (x := y) (by rw [henc])
      have hLM := (chkL_iff.1 hchk)
      have hE2 := enc_any AM nm cm ML hnm (by have := hLM.1; unfold maxLen; omega) y hxy W7 ((Has.of_own hoM).next hb7) (labOk_of hchk) (HS.out.next hbA7)
      rw [henc] at hE2
      have hE2 := Lib.hid hE2
      have hoM := Lib.hid hoM
      clear hchk hLM
      go_wp2_with fail
      refine hE2.out.mono ?_
      rintro e w8 ⟨v, rfl, A8, n8, c8, rfl, ho8, hb8⟩
      simp only [] at ho8
      have hbA8 := bnext hbA7 hb8
      have hn8 : b.length = n8 := by have h9 := ho8.1; rw [u8s_len, Nat.mul_one] at h9; exact h9
      have hBe := Lib.hid (bytesEqual_any A8 A2 n8 m c8 c2 b b ok2.out ok2.out hn8 Hm.out w8 (Has.of_own ho8) (Hh2.out.next hbA8))
      rw [decide_eq_true rfl] at hBe
      have ho8 := Lib.hid ho8
      clear hn8 y0 y1
      go_wp2_with fail
      refine hBe.out.mono ?_
      rintro e w9 ⟨rfl, nd9, rfl⟩
      go_wp2_with fail
      go_ret
      exact R1.mk rfl (below_drewN hbA8 _)
    · obtain ⟨rfl, rfl⟩ := dec_bad Hd.out hed
      go_wp2_with fail
      refine HdD.mono ?_
      rintro e w6 ⟨v, rfl, AM, nm, cm, rfl, hnm, hoM, hb6⟩
      simp only [] at hnm hoM
      have hbA6 := bnext hbA hb6
      have hnm : 0 = nm := hnm
      subst hnm
      go_upto_region 11 with fail
      obtain ⟨W7, hW7⟩ : ∃ W7, w6.alloc (.cells #[.int .i64 0, .int .i64 0] 27) = W7 := ⟨_, rfl⟩
      obtain ⟨q7, hq7⟩ : ∃ q7, w6.heap.size = q7 := ⟨_, rfl⟩
      have hb7 : Below w6.heap.size w6 W7 := by rw [← hW7]; exact one_allocB _ _
      have k7 : Blk W7 q7 27 #[.int .i64 0, .int .i64 0] := by rw [← hW7]; exact Blk.newD _ _ _ _ hq7
      rw [hW7, hq7]
      have hbA7 := bnext hbA6 hb7
      have y0 : W7.cell? ⟨q7, 0, none⟩ = some (.int .i64 0) := k7.cell 0
      have y1 : W7.cell? ⟨q7, 1, none⟩ = some (.int .i64 0) := k7.cell 1
      have q3 := eqlSmp
      go_wp2_with fail
      go_ret
      exact R1.mk rfl hbA7
end Go.Proofs.YtdnlnkbnfiamiaaGreatDoor
