/- slices.Insert at uint64, of a row of the call's own and one number: the row with the number at its place. Conditions: fewer than a million numbers. -/
import Derived.Test.YtmbigoeldobaiaaDoorGInsert
namespace Go.Proofs.YtmbigoeldobaiaaDoor.XMrk
open Go Go.RowKit Go.Lib Go.Proofs.YtmbigoeldobaiaaDoorW.PrintWords Go.Proofs.YtmbigoeldobaiaaDoorW.PrintLast Go.Proofs.YtmbigoeldobaiaaDoorW.PrintMore Go.Proofs.YtmbigoeldobaiaaDoor.Num
set_option linter.unusedVariables false
set_option linter.unusedSimpArgs false
def setR : Array Value → Nat → List Value → Array Value
 | cur, _, [] => cur
 | cur, o, v :: r => setR (cur.setIfInBounds o v) (o + 1) r
theorem setR_size : ∀ (vs : List Value) (cur : Array Value) (o : Nat), (setR cur o vs).size = cur.size
 | [], _, _ => rfl
 | v :: r, cur, o => by simp only [setR]; rw [setR_size r]; simp
theorem setR_out : ∀ (vs : List Value) (cur : Array Value) (o j : Nat), (j < o ∨ o + vs.length ≤ j) → (setR cur o vs)[j]? = cur[j]?
 | [], _, _, _, _ => rfl
 | v :: r, cur, o, j, h => by
  simp only [List.length_cons] at h
  simp only [setR]
  rw [setR_out r _ _ _ (by omega), Array.getElem?_setIfInBounds_ne (by omega)]
theorem setR_in : ∀ (vs : List Value) (cur : Array Value) (o j : Nat), j < vs.length → o + vs.length ≤ cur.size → (setR cur o vs)[o + j]? = vs[j]?
 | v :: r, cur, o, 0, h, hs => by
  simp only [List.length_cons] at hs
  simp only [setR]
  rw [setR_out r _ _ _ (by omega), Nat.add_zero, Array.getElem?_setIfInBounds_self_of_lt (by omega)]; rfl
 | v :: r, cur, o, j + 1, h, hs => by
  simp only [List.length_cons] at h hs
  simp only [setR]
  have := setR_in r (cur.setIfInBounds o v) (o + 1) j (by omega) (by rw [Array.size_setIfInBounds]; omega)
  rw [show o + (j + 1) = o + 1 + j by omega, this]; rfl
theorem heap_setCells (b : Nat) : ∀ (vs : List Value) (o : Nat) (w : World) (cur : Array Value) (t : TypeId), w.heap[b]? = some (.cells cur t (0, 0)) → (w.setCells b o vs).heap[b]? = some (.cells (setR cur o vs) t (0, 0))
 | [], _, _, _, _, h => h
 | v :: r, o, w, cur, t, h => heap_setCells b r (o + 1) _ _ t (blk_set h o v)
theorem setCells_grown (b : Nat) : ∀ (vs : List Value) (o : Nat) (w w1 : World), w.grownBy w1 (some b) → w.grownBy (w1.setCells b o vs) (some b)
 | [], _, _, _, h => h
 | v :: r, o, w, w1, h => setCells_grown b r (o + 1) w _ ⟨h.os, h.tape, h.output, by simpa [World.setCell] using h.size, fun k hk hn => (Below.heap_setCell w1 ⟨b, o, none⟩ v k (fun e => hn (by rw [e]))).trans (h.block k hk hn)⟩
theorem grown_refl (w : World) (row : Option Nat) : w.grownBy w row := ⟨rfl, rfl, rfl, Nat.le_refl _, fun _ _ _ => rfl⟩
theorem grown_drew {w w1 : World} {row : Option Nat} (h : w.grownBy w1 row) : w.grownBy w1.drew row := ⟨h.os, h.tape, h.output, h.size, h.block⟩
theorem grown_new {w w1 : World} {row : Option Nat} (h : w.grownBy w1 row) (o : Obj) : w.grownBy (w1.alloc o) row :=
 ⟨h.os, h.tape, h.output, by simpa using Nat.le_succ_of_le h.size, fun k hk hn => (heap_alloc_old w1 o (Nat.lt_of_lt_of_le hk h.size)).trans (h.block k hk hn)⟩
theorem grown_cells_new (b : Nat) (row : Option Nat) : ∀ (vs : List Value) (o : Nat) (w w1 : World), w.heap.size ≤ b → w.grownBy w1 row → w.grownBy (w1.setCells b o vs) row
 | [], _, _, _, _, h => h
 | v :: r, o, w, w1, hb, h => grown_cells_new b row r (o + 1) w _ hb ⟨h.os, h.tape, h.output, by simpa [World.setCell] using h.size, fun k hk hn => (Below.heap_setCell w1 ⟨b, o, none⟩ v k (fun e => by simp only at e; omega)).trans (h.block k hk hn)⟩
def insAt (xs : List Int) (i : Nat) (x : Int) : List Int := xs.take i ++ x :: xs.drop i
theorem insAt_len {xs : List Int} {i : Nat} {x : Int} (h : i ≤ xs.length) : (insAt xs i x).length = xs.length + 1 := by
 unfold insAt; rw [List.length_append, List.length_take, List.length_cons, List.length_drop]; omega
theorem insAt_get {xs : List Int} {i : Nat} {x : Int} (h : i ≤ xs.length) (j : Nat) : (insAt xs i x)[j]? = if j < i then xs[j]? else if j = i then some x else xs[j - 1]? := by
 unfold insAt
 by_cases c : j < i
 ·rw [if_pos c, List.getElem?_append_left (by rw [List.length_take]; omega), List.getElem?_take_of_lt c]
 ·rw [if_neg c, List.getElem?_append_right (by rw [List.length_take]; omega), List.length_take, Nat.min_eq_left h]
  by_cases c2 : j = i
  ·rw [if_pos c2, c2, Nat.sub_self]; rfl
  ·rw [if_neg c2]
   obtain ⟨m, hm⟩ : ∃ m, j - i = m + 1 := ⟨j - i - 1, by omega⟩
   rw [hm, List.getElem?_cons_succ, List.getElem?_drop]
   congr 1; omega
theorem nums_one (l : List Int) : ∀ v ∈ nums .u64 l, v.oneCell' = true := by
 intro v hv
 obtain ⟨x, _, rfl⟩ := List.mem_map.1 hv
 rfl
theorem nums_get (l : List Int) (j : Nat) : (nums .u64 l)[j]? = l[j]?.map (Value.int .u64) := by unfold nums; rw [List.getElem?_map]
theorem nums_len (l : List Int) : (nums .u64 l).length = l.length := by unfold nums; rw [List.length_map]
def InsPost (w : World) (base : Nat) (v : Value) (ys : List Int) (e : Ending) (w' : World) : Prop :=
 ∃ v', e = .returned v' ∧ w'.ownsRow base 22 1 v' ys.length (nums .u64 ys) ∧ w.grownBy w' v.ownBlock ∧ (v'.ownBlock = v.ownBlock ∨ ∃ b, v'.ownBlock = some b ∧ w.heap.size ≤ b)
theorem toList_take (a : Array Value) (n : Nat) (l : List Value) (hl : l.length = n) (hn : n ≤ a.size) (h : ∀ j, j < n → a[j]? = l[j]?) : a.toList.take (n * 1) = l := by
 rw [Nat.mul_one]
 apply List.ext_getElem?
 intro j
 by_cases c : j < n
 ·rw [List.getElem?_take_of_lt c, Array.getElem?_toList, h j c]
 ·rw [List.getElem?_eq_none (by rw [List.length_take]; omega), List.getElem?_eq_none (by omega)]
theorem insert_own (base : Nat) (v : Value) (xs : List Int) (i : Nat) (x : Int) (vb : Nat) (w : World) (hown : w.ownsRow base 22 1 v xs.length (nums .u64 xs)) (hb : base ≤ w.heap.size)
  (hv : w.heap[vb]? = some (.cells #[.int .u64 x] 22 (0, 0))) (hne : v.ownBlock ≠ some vb) (hi : i ≤ xs.length) (hl : xs.length < 1000000) :
  Calls Tryd.prog 53 #[v, .int .i64 (i : Int), .slice (some ⟨vb, 0, none⟩) 1 1] w fun e w' => InsPost w base v (insAt xs i x) e w' := by
 have hvs : ∀ j u, [Value.int .u64 x][j]? = some u → w.cell? ⟨vb, 0 + j, none⟩ = some u := fun j u hj => by
  match j with
  | 0 => injection hj with hj; subst hj; exact (blk_cell hv 0).trans rfl
  | j + 1 => simp at hj
 have h1v : ∀ v ∈ [Value.int .u64 x], v.oneCell' = true := fun v h => by rw [List.mem_singleton] at h; subst h; rfl
 have hlen := insAt_len (x := x) hi
 have hnl : (nums .u64 (insAt xs i x)).length = xs.length + 1 := by rw [nums_len, hlen]
 rcases hown.2 with ⟨rfl, h0⟩ | ⟨g, cap, cur, rfl, hg, hgg, hn, hm, hs, ht⟩
 ·have hxs : xs = [] := List.eq_nil_of_length_eq_zero h0
  subst hxs
  have hi0 : i = 0 := by simpa using hi
  subst hi0
  refine (ins_end_grow none 0 0 vb 0 1 1 [] [.int .u64 x] w (by omega) (by omega) (by omega) (by omega) rfl rfl (fun _ => rfl) (fun a h => by cases h) hvs h1v).mono ?_
  rintro e w' ⟨rfl, rfl⟩
  have hge := grownCap_ge w 1 0 22
  refine ⟨_, rfl, ⟨by rw [hnl, hlen]; simp, .inr ⟨w.heap.size, _, _, rfl, hb, heap_alloc_new w.drew _, hge, ?_, ?_, ?_⟩⟩, grown_new (grown_drew (grown_refl _ _)) _, .inr ⟨_, rfl, Nat.le_refl _⟩⟩
  ·exact grownCap_le_maxLen w _ _ _ (by unfold maxLen; omega)
  ·simp [Builtin.zeroCells, Value.cells]; omega
  ·simp [insAt, nums]
 ·rw [Nat.mul_one] at ht
  have hcs' : cur.size = cap := by omega
  have hcur : ∀ j, j < xs.length → cur[j]? = (nums .u64 xs)[j]? := fun j hj => by
   rw [← ht, List.getElem?_take_of_lt hj, Array.getElem?_toList]
  have hcell : ∀ j, w.cell? ⟨g, j, none⟩ = cur[j]? := fun j => blk_cell hgg j
  have hcs : ∀ j v, (nums .u64 xs)[j]? = some v → w.cell? ⟨g, 0 + j, none⟩ = some v := fun j v hj => by
   have hjl : j < xs.length := by have := (List.getElem?_eq_some_iff.1 hj).1; rwa [nums_len] at this
   rw [Nat.zero_add, hcell, hcur j hjl, hj]
  have hvg : vb ≠ g := fun e => hne (by rw [e]; rfl)
  have hclen : (nums .u64 xs).length = xs.length := nums_len xs
  have h1c := nums_one xs
  have hcm : cap ≤ 9223372036854775807 := by unfold maxLen at hm; omega
  have hfz : ∀ j, w.frozen? ⟨g, j, none⟩ = false := fun j => blk_frozen hgg j
  have hsome : ∀ j, j < cap → (w.cell? ⟨g, j, none⟩).isSome = true := fun j hj => by rw [hcell, Array.getElem?_eq_getElem (by omega)]; rfl
  by_cases hroom : xs.length + 1 ≤ cap
  ·by_cases hend : i = xs.length
   ·subst hend
    refine (ins_end_room g 0 xs.length cap vb 0 1 1 [.int .u64 x] w (by omega) hroom hcm rfl (fun j hj => by rw [Nat.zero_add]; exact hsome _ (by omega)) (fun j hj => by rw [Nat.zero_add]; exact hfz _) hvs h1v).mono ?_
    rintro e w' ⟨rfl, rfl⟩
    rw [Nat.zero_add]
    refine ⟨_, rfl, ⟨by rw [hnl, hlen]; simp, .inr ⟨g, cap, setR cur xs.length [.int .u64 x], by rw [hlen], hg, heap_setCells g _ _ _ _ _ hgg, by rw [hlen]; exact hroom, hm, by rw [setR_size]; exact hs, ?_⟩⟩, setCells_grown g _ _ _ _ (grown_refl _ _), .inl rfl⟩
    rw [hlen]
    refine toList_take _ _ _ hnl (by rw [setR_size]; omega) fun j hj => ?_
    rw [nums_get, insAt_get (Nat.le_refl _)]
    by_cases c : j < xs.length
    ·rw [if_pos c, setR_out _ _ _ _ (.inl c), hcur j c, nums_get]
    ·have hj2 : j = xs.length := by omega
     rw [if_neg c, if_pos hj2, hj2]
     have := setR_in [Value.int .u64 x] cur xs.length 0 (by simp) (by simp only [List.length_cons, List.length_nil]; omega)
     simp only [Nat.add_zero] at this
     rw [this]; rfl
   ·refine (ins_shift g 0 xs.length cap i vb 0 1 1 (nums .u64 xs) [.int .u64 x] w (by omega) (by omega) hroom hcm hvg hclen rfl hcs (fun j hj => by rw [Nat.zero_add]; exact hsome _ (by omega)) (fun j hj => by rw [Nat.zero_add]; exact hfz _) hvs h1c h1v 22 22 1 cur.size (by simp [World.shape?, hv]) (by simp [World.shape?, hgg]) (by omega) (blk_frozen hv 0) (blk_frozen hv 1)).mono ?_
    rintro e w' ⟨rfl, rfl⟩
    rw [Nat.zero_add, Nat.zero_add]
    have hdl : ((nums .u64 xs).drop i).length = xs.length - i := by rw [List.length_drop, hclen]
    have hgd : w.drew.heap[g]? = some (.cells cur 22 (0, 0)) := hgg
    refine ⟨_, rfl, ⟨by rw [hnl, hlen]; simp, .inr ⟨g, cap, setR (setR cur (i + 1) ((nums .u64 xs).drop i)) i [.int .u64 x], by rw [hlen], hg, heap_setCells g _ _ _ _ _ (heap_setCells g _ _ _ _ _ hgd), by rw [hlen]; exact hroom, hm, by rw [setR_size, setR_size]; exact hs, ?_⟩⟩, setCells_grown g _ _ _ _ (setCells_grown g _ _ _ _ (grown_drew (grown_refl _ _))), .inl rfl⟩
    rw [hlen]
    refine toList_take _ _ _ hnl (by rw [setR_size, setR_size]; omega) fun j hj => ?_
    rw [nums_get, insAt_get hi]
    by_cases c : j < i
    ·rw [if_pos c, setR_out _ _ _ _ (.inl c), setR_out _ _ _ _ (.inl (by omega)), hcur j (by omega), nums_get]
    ·rw [if_neg c]
     by_cases c2 : j = i
     ·rw [if_pos c2, c2]
      have := setR_in [Value.int .u64 x] (setR cur (i + 1) ((nums .u64 xs).drop i)) i 0 (by simp) (by rw [setR_size]; simp only [List.length_cons, List.length_nil]; omega)
      simp only [Nat.add_zero] at this
      rw [this]; rfl
     ·rw [if_neg c2, setR_out _ _ _ _ (.inr (by simp only [List.length_cons, List.length_nil]; omega))]
      have := setR_in ((nums .u64 xs).drop i) cur (i + 1) (j - (i + 1)) (by omega) (by omega)
      rw [show i + 1 + (j - (i + 1)) = j by omega] at this
      rw [this, List.getElem?_drop, nums_get, show i + (j - (i + 1)) = j - 1 by omega]
  ·by_cases hend : i = xs.length
   ·subst hend
    refine (ins_end_grow (some ⟨g, 0, none⟩) xs.length cap vb 0 1 1 (nums .u64 xs) [.int .u64 x] w (by omega) hn (by omega) (by omega) hclen rfl (fun h => by cases h) (fun a h j u hj => by injection h with h; subst h; rw [Addr.add_lit]; exact hcs j u hj) hvs h1v).mono ?_
    rintro e w' ⟨rfl, rfl⟩
    have hge := grownCap_ge w (xs.length + 1) cap 22
    refine ⟨_, rfl, ⟨by rw [hnl, hlen]; simp, .inr ⟨w.heap.size, _, _, by rw [hlen], hb, heap_alloc_new w.drew _, by rw [hlen]; exact hge, ?_, ?_, ?_⟩⟩, grown_new (grown_drew (grown_refl _ _)) _, .inr ⟨_, rfl, Nat.le_refl _⟩⟩
    ·exact grownCap_le_maxLen w _ _ _ (by unfold maxLen; omega)
    ·simp [Builtin.zeroCells, Value.cells, hclen]; omega
    ·rw [hlen]
     have e : nums .u64 (insAt xs xs.length x) = nums .u64 xs ++ [.int .u64 x] := by unfold insAt nums; simp
     rw [e, Array.toList_append, List.take_append_of_le_length (by simp [hclen]), List.take_of_length_le (by simp [hclen])]
   ·refine (ins_grow g 0 xs.length cap i vb 0 1 1 (nums .u64 xs) [.int .u64 x] w (by omega) (by omega) hn (by omega) (by omega) hclen rfl hcs hvs h1c h1v).mono ?_
    rintro e w' ⟨rfl, rfl⟩
    have hge := grownCap_ge w (xs.length + 1) cap 22
    have hle := grownCap_le_maxLen w (xs.length + 1) cap 22 (by unfold maxLen; omega)
    obtain ⟨G, hG⟩ : ∃ G, grownCap w (xs.length + 1) cap 22 = G := ⟨_, rfl⟩
    rw [hG] at hge hle ⊢
    obtain ⟨ROW, hROW⟩ : ∃ ROW, ((nums .u64 xs).take i).toArray ++ Builtin.zeroCells (Value.int .u64 0).cells (xs.length + 1 - i) ++ Builtin.zeroCells (Value.int .u64 0).cells (G - (xs.length + 1)) = ROW := ⟨_, rfl⟩
    rw [hROW]
    have hrs : ROW.size = G := by rw [← hROW]; simp [Builtin.zeroCells, Value.cells, hclen]; omega
    have hrt : ∀ j, j < i → ROW[j]? = (nums .u64 xs)[j]? := fun j hj => by
     rw [← hROW, Array.append_assoc, Array.getElem?_append_left (by simp [hclen]; omega), List.getElem?_toArray, List.getElem?_take_of_lt hj]
    have hdl : ((nums .u64 xs).drop i).length = xs.length - i := by rw [List.length_drop, hclen]
    have hnew : ((w.alloc (.cells ROW 22)).drew).heap[w.heap.size]? = some (.cells ROW 22 (0, 0)) := heap_alloc_new w _
    have hb2 := heap_setCells w.heap.size ((nums .u64 xs).drop i) (i + 1) _ _ _ (show (((w.alloc (.cells ROW 22)).drew.setCells w.heap.size i [.int .u64 x]).drew).heap[w.heap.size]? = _ from heap_setCells w.heap.size [.int .u64 x] i _ _ _ hnew)
    refine ⟨_, rfl, ⟨by rw [hnl, hlen]; simp, .inr ⟨w.heap.size, G, _, by rw [hlen], hb, hb2, by rw [hlen]; exact hge, hle, by rw [setR_size, setR_size, hrs, Nat.mul_one], ?_⟩⟩, grown_cells_new _ _ _ _ _ _ (Nat.le_refl _) (grown_drew (grown_cells_new _ _ _ _ _ _ (Nat.le_refl _) (grown_drew (grown_new (grown_refl _ _) _)))), .inr ⟨_, rfl, Nat.le_refl _⟩⟩
    rw [hlen]
    refine toList_take _ _ _ hnl (by rw [setR_size, setR_size]; omega) fun j hj => ?_
    rw [nums_get, insAt_get hi]
    by_cases c : j < i
    ·rw [if_pos c, setR_out _ _ _ _ (.inl (by omega)), setR_out _ _ _ _ (.inl c), hrt j c, nums_get]
    ·rw [if_neg c]
     by_cases c2 : j = i
     ·rw [if_pos c2, c2, setR_out _ _ _ _ (.inl (by omega))]
      have := setR_in [Value.int .u64 x] ROW i 0 (by simp) (by simp only [List.length_cons, List.length_nil]; omega)
      simp only [Nat.add_zero] at this
      rw [this]; rfl
     ·rw [if_neg c2]
      have := setR_in ((nums .u64 xs).drop i) (setR ROW i [.int .u64 x]) (i + 1) (j - (i + 1)) (by omega) (by rw [setR_size]; omega)
      rw [show i + 1 + (j - (i + 1)) = j by omega] at this
      rw [this, List.getElem?_drop, nums_get, show i + (j - (i + 1)) = j - 1 by omega]
end Go.Proofs.YtmbigoeldobaiaaDoor.XMrk
