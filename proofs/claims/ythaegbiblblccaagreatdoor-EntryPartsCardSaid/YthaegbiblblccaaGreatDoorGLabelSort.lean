/- slices.SortFunc at labels by name: the row holds the sorted list. Conditions: those that each theorem names. -/
import Derived.Test.YthaegbiblblccaaGreatDoorXEntP1
import Derived.Test.YthaegbiblblccaaGreatDoorGLabelCmp
import Derived.Test.YthaegbiblblccaaGreatDoorGLabelCollect
import Derived.Shelf.SlSortCmp.SmallK
import Derived.Shelf.Small.Bits
import Derived.Shelf.Lay
import Derived.Ground.SlsfProg
import Derived.Ground.NamesProg
namespace Go.Proofs.YthaegbiblblccaaGreatDoor.XEnt
open Go.RowKit Go.Shelf Go.Lib Go.Sort Go.Proofs.YthaegbiblblccaaGreatDoorW.PrintWords Go.Proofs.YthaegbiblblccaaGreatDoorW.PrintLast Go.Proofs.YthaegbiblblccaaGreatDoorW.PrintMore Go.Proofs.YthaegbiblblccaaGreatDoor.Num
set_option linter.unusedVariables false
set_option linter.unusedSimpArgs false
attribute [local go_sem] Oper.semAt_some
shelf_lay_g SlLaysF0.n6 Slsf 6 at Tryz 92 as Lb.sort
shelf_lay Lays.n125 Nm 125 at Tryz as Lb.bits
instance : Inhabited Q := ⟨z52⟩
def cmpQ (x y : Q) : Int := cmpS x.f0 y.f0
def sortL (ls : List Q) : List Q := (Sort.insertionSort (ltOf cmpQ) ls.toArray 0 ls.length).toList

/-! ### the row as the sort's kit speaks of it -/
theorem flat_of : ∀ (ls : List Q) (inner : List Value), inner.length = ls.length * 2 → (∀ (j : Nat) (p : Q), ls[j]? = some p → (inner.drop (j * 2)).take 2 = cells1 p) → inner = flat ls
  | [], inner, h, _ => List.eq_nil_of_length_eq_zero (by simpa using h)
  | x :: ls, inner, h, hp => by
    have h0 := hp 0 x rfl
    rw [Nat.zero_mul, List.drop_zero] at h0
    have ih := flat_of ls (inner.drop 2) (by rw [List.length_drop, h, List.length_cons]; omega) (fun j p hj => by
      have := hp (j + 1) p (by rw [List.getElem?_cons_succ]; exact hj)
      rw [List.drop_drop, show 2 + j * 2 = (j + 1) * 2 by omega]; exact this)
    rw [← List.take_append_drop 2 inner, h0, ih]; rfl
theorem flat_of_R {W : World} {base : Nat} {ok : Nat → Prop} {v : Value} {ls : List Q} (h : Kd.R k52 52 W base ok v ls) : W.ownsRow base 52 2 v ls.length (flat ls) := by
  obtain ⟨_, inner, ho, hl, hr⟩ := h
  have e := flat_of ls inner hl (fun j p hj => k52_openM (hr j p hj))
  rw [← e]; exact ho
theorem R_of_flat {W : World} {base : Nat} {v : Value} {ls : List Q} (h : W.ownsRow base 52 2 v ls.length (flat ls)) : Kd.R k52 52 W base (fun _ => True) v ls :=
  ⟨fun _ _ => trivial, flat ls, h, flat_len ls, fun j p hp => by
    have e := flat_at ls j p hp
    show k52.M _ _ _ _ (((flat ls).drop (j * 2)).take 2)
    rw [e]; exact k52_mkM _ _ _ p⟩
theorem flat_get : ∀ (ls : List Q) (j c : Nat), j < ls.length → c < 2 → (flat ls)[j * 2 + c]? = (cells1 (ls[j]!))[c]?
  | x :: ls, 0, c, _, hc => by
    rw [Nat.zero_mul, Nat.zero_add]
    show (cells1 x ++ flat ls)[c]? = _
    rw [List.getElem?_append_left (by show c < 2; exact hc)]; rfl
  | x :: ls, j + 1, c, h, hc => by
    show (cells1 x ++ flat ls)[(j + 1) * 2 + c]? = _
    rw [List.getElem?_append_right (by show 2 ≤ _; omega)]
    show (flat ls)[(j + 1) * 2 + c - 2]? = _
    rw [show (j + 1) * 2 + c - 2 = j * 2 + c by omega, flat_get ls j c (by simpa using h) hc]
    simp
theorem flatK_flat (d : Array Q) : (flatK cells1 2 d).toList = flat d.toList := by
  apply List.ext_getElem?
  intro t
  by_cases h : t < d.size * 2
  · have e : (flatK cells1 2 d).toList[t]? = some ((cells1 d[t / 2]!)[t % 2]!) := by
      have h2 : t < (flatK cells1 2 d).toList.length := by rw [Array.length_toList, size_flatK]; exact h
      rw [List.getElem?_eq_getElem h2, ← get_flatK cells1 2 d t h, Array.getElem_toList, getElem!_pos]
    rw [e]
    have g := flat_get d.toList (t / 2) (t % 2) (by rw [Array.length_toList]; omega) (Nat.mod_lt _ (by decide))
    rw [show t / 2 * 2 + t % 2 = t by omega] at g
    rw [g]
    have hm : t % 2 < 2 := Nat.mod_lt _ (by decide)
    have e2 : d.toList[t / 2]! = d[t / 2]! := by
      rw [List.getElem!_eq_getElem?_getD, Array.getElem?_toList, Array.getElem!_eq_getD, Array.getD_eq_getD_getElem?]
    rw [e2, List.getElem?_eq_getElem (by show t % 2 < 2; exact hm), getElem!_pos (cells1 d[t / 2]!) (t % 2) (by show t % 2 < 2; exact hm)]
  · rw [List.getElem?_eq_none (by rw [Array.length_toList, size_flatK]; omega), List.getElem?_eq_none (by rw [flat_len, Array.length_toList]; omega)]
theorem holds_of_own {W : World} {base g cap : Nat} {ls : List Q} (h : W.ownsRow base 52 2 (.slice (some ⟨g, 0, none⟩) ls.length cap) ls.length (flat ls)) : HoldsK cells1 2 W g 0 ls.toArray := by
  obtain ⟨_, h | ⟨g', cap', cur, e, hb, hh, hc, hm, hz, ht⟩⟩ := h
  · cases h.1
  · cases e
    intro j hj
    rw [size_flatK, List.size_toArray] at hj
    have hcj : cur.toList[j]? = (flat ls)[j]? := by rw [← ht, List.getElem?_take_of_lt hj]
    have e : (flatK cells1 2 ls.toArray).toList[j]? = (flat ls)[j]? := by rw [flatK_flat]
    have hlt : j < (flatK cells1 2 ls.toArray).size := by rw [size_flatK, List.size_toArray]; exact hj
    have e2 : (flatK cells1 2 ls.toArray).toList[j]? = some ((flatK cells1 2 ls.toArray)[j]!) := by
      rw [List.getElem?_eq_getElem (by rw [Array.length_toList]; exact hlt), Array.getElem_toList, getElem!_pos]
    constructor
    · simp only [World.cell?, hh, Nat.zero_add, id]
      rw [← Array.getElem?_toList, hcj, ← e, e2]
      rfl
    · simp [World.frozen?, hh]
theorem own_of_sorted {w : World} {base g cap n : Nat} {ls ls' : List Q} {os : Array Obj} (h : w.ownsRow base 52 2 (.slice (some ⟨g, 0, none⟩) ls.length cap) ls.length (flat ls)) (hlen : ls'.length = ls.length) :
    (sortWorldK cells1 2 w g 0 n ls'.toArray os).ownsRow base 52 2 (.slice (some ⟨g, 0, none⟩) ls'.length cap) ls'.length (flat ls') ∧ Below base w (sortWorldK cells1 2 w g 0 n ls'.toArray os) := by
  have hH := holds_of_own h
  obtain ⟨_, h | ⟨g', cap', cur, e, hb, hh, hc, hm, hz, ht⟩⟩ := h
  · cases h.1
  · cases e
    have hg : g < w.heap.size := (Array.getElem?_eq_some_iff.1 hh).1
    have hH' := holdsK_sortWorldK_c cells1 2 w g 0 ls.toArray ls'.toArray n os hH hg (by simpa using hlen)
    have hheap : (sortWorldK cells1 2 w g 0 n ls'.toArray os).heap[g]? = some (.cells (putCells id 0 (flatK cells1 2 ls'.toArray) cur) 52 (0, 0)) := by
      unfold sortWorldK
      rw [heap_grow_old _ _ (by rw [size_putRowK]; exact hg)]
      show (w.heap.modify g _)[g]? = _
      rw [Array.getElem?_modify, if_pos rfl, hh]; rfl
    have hsz : (putCells id 0 (flatK cells1 2 ls'.toArray) cur).size = cur.size := by unfold putCells; rw [Array.size_mapIdx]
    refine ⟨⟨flat_len ls', .inr ⟨g, cap, _, rfl, hb, hheap, by omega, hm, by rw [hsz]; exact hz, ?_⟩⟩, ?_⟩
    · apply List.ext_getElem?
      intro t
      by_cases hl : t < ls'.length * 2
      · rw [List.getElem?_take_of_lt hl]
        obtain ⟨hcell, _⟩ := hH' t (by rw [size_flatK, List.size_toArray]; exact hl)
        simp only [World.cell?, hheap, Nat.zero_add, id] at hcell
        rw [Array.getElem?_toList]
        refine (show _ = some ((flatK cells1 2 ls'.toArray)[t]!) from hcell).trans ?_
        have hlt : t < (flatK cells1 2 ls'.toArray).size := by rw [size_flatK, List.size_toArray]; exact hl
        have e2 : (flatK cells1 2 ls'.toArray).toList[t]? = some ((flatK cells1 2 ls'.toArray)[t]!) := by
          rw [List.getElem?_eq_getElem (by rw [Array.length_toList]; exact hlt), Array.getElem_toList, getElem!_pos]
        rw [← e2, flatK_flat]
      · rw [List.getElem?_eq_none (by rw [List.length_take]; omega), List.getElem?_eq_none (by rw [flat_len]; omega)]
    · refine ⟨rfl, rfl, rfl, size_sortWorldK_c _ _ _ _ _ _ _ _, fun k hk => ?_⟩
      unfold sortWorldK
      rw [heap_grow_old _ _ (by rw [size_putRowK]; show k < w.heap.size; omega)]
      show (w.heap.modify g _)[k]? = _
      rw [Array.getElem?_modify, if_neg (by omega)]

/-! ### the order -/
theorem ltOf_iff (x y : Q) : ltOf cmpQ x y = Op.bytesLess x.f0.toList y.f0.toList := by
  unfold ltOf cmpQ cmpS
  by_cases c : Op.bytesLess x.f0.toList y.f0.toList = true
  · rw [if_pos c, c]; rfl
  · rw [if_neg c, Bool.eq_false_iff.mpr c]
    by_cases d : Op.bytesLess y.f0.toList x.f0.toList = true
    · rw [if_pos d]; rfl
    · rw [if_neg d]; rfl
theorem swo : SWO (ltOf cmpQ) where
  irrefl x := by rw [ltOf_iff, bytesLess_eq]; exact decide_eq_false (List.lt_irrefl _)
  trans x y z h1 h2 := by
    rw [ltOf_iff, bytesLess_eq] at *
    exact decide_eq_true (List.lt_trans (of_decide_eq_true h1) (of_decide_eq_true h2))
  ntrans x y z h1 h2 := by
    rw [ltOf_iff, bytesLess_eq] at *
    have a := of_decide_eq_false h1
    have b := of_decide_eq_false h2
    refine decide_eq_false (fun h => ?_)
    rw [List.not_lt] at a b
    exact List.not_lt.mpr (List.le_trans b a) h
theorem sortL_holds (ls : List Q) : (sortL ls).Perm ls ∧ (sortL ls).Pairwise (fun x y => Op.bytesLess y.f0.toList x.f0.toList = false) := by
  have h := insertionSort_holds (lt := ltOf cmpQ) swo ls.toArray 0 ls.length (Nat.zero_le _) (by simp)
  obtain ⟨⟨hs, _, hp⟩, hso⟩ := h
  unfold sortL
  generalize Sort.insertionSort (ltOf cmpQ) ls.toArray 0 ls.length = d at hs hp hso
  have hs : d.size = ls.length := by simpa using hs
  constructor
  · have e1 : (d.extract 0 ls.length) = d := by rw [← hs]; simp
    have e2 : (ls.toArray.extract 0 ls.length).toList = ls := by simp
    rwa [e1, e2] at hp
  · rw [List.pairwise_iff_getElem]
    intro i j hi hj hij
    have := hso i j (Nat.zero_le _) hij (by rw [Array.length_toList] at hj; omega)
    rw [ltOf_iff] at this
    rw [Array.length_toList] at hi hj
    rw [getElem!_pos d i hi, getElem!_pos d j hj] at this
    rw [Array.getElem_toList, Array.getElem_toList]; exact this

/-! ### the calls -/
theorem cmpLays (B blk size : Nat) (w : World) (hB : w.cell? ⟨B, 0, none⟩ = some (.func (.func 64) #[] #[])) (hlt : B < w.heap.size) (hne : B ≠ blk) (hblk : blk < w.heap.size) :
    CmpLays Tryz.prog 79 #[.pointer (some ⟨B, 0, none⟩)] cells1 2 cmpQ blk 0 size w := fun m os dk hs x y => by
  have hc : (sortWorldK cells1 2 w blk 0 m dk os).cell? ⟨B, 0, none⟩ = some (.func (.func 64) #[] #[]) := by
    unfold sortWorldK
    rw [cell?_grow _ _ _ (by rw [size_putRowK]; exact hlt), cell?_putRowK_other _ _ _ _ _ _ _ (by exact hne)]; exact hB
  refine (cmp.calls x y B _ hc (Nat.lt_of_lt_of_le hlt (size_sortWorldK_c _ _ _ _ _ _ _ _))).mono ?_
  rintro e w' ⟨rfl, hg⟩
  exact ⟨rfl, hg.eq⟩
theorem hlen (n : Nat) (W : World) (h : n ≤ 12) : Calls Tryz.prog 102 #[.int .u64 n] W fun e w' => (∃ l : Int, e = .returned (.int .i64 l)) ∧ w' = W :=
  (Any.bits_Len Lb.bits n W (by omega) (by omega)).mono fun _ _ ⟨he, hw⟩ => ⟨⟨_, he⟩, hw⟩
theorem agg30 : ∀ w, (isAgg 52).run Tryz.prog w = .ok true w := Tryz.isAgg52
theorem size30 : ∀ w, (Go.sizeOf 52).run Tryz.prog w = .ok 2 w := Tryz.sizeOf52
theorem ins0 (f : Value) (W : World) : Calls Tryz.prog 106 #[.slice none 0 0, .int .i64 0, .int .i64 0, f] W fun e w' => e = .returned (.tuple #[]) ∧ Below W.heap.size W w' := by
  go_enter Tryz.func106, Tryz.ntmps106
  go_wp2
  refine wp_loop_rounds 1 ?_
  rw [rounds_succ]
  go_wp2
  go_end0
  exact ⟨rfl, by repeat (first | exact Below.refl _ _ | apply below_drew1 | apply pw_below_drewN)⟩
theorem pdq0 (l : Int) (f : Value) (W : World) : Calls Tryz.prog 101 #[.slice none 0 0, .int .i64 0, .int .i64 0, .int .i64 l, f] W fun e w' => e = .returned (.tuple #[]) ∧ Below W.heap.size W w' := by
  go_enter Tryz.func101, Tryz.ntmps101
  go_wp2
  refine wp_loop_rounds 1 ?_
  rw [rounds_succ]
  go_wp2_with (go_at_call 106; refine (ins0 _ _).mono ?_; rintro e w' ⟨rfl, hb⟩)
  (try simp only [Exit.inBlock, Exit.then]); refine bodyPost_ret (results_none rfl _ _ _) rfl ?_
  exact ⟨rfl, hb⟩
theorem sort0 (f : Value) (W : World) : Calls Tryz.prog 92 #[.slice none 0 0, f] W fun e w' => e = .returned (.tuple #[]) ∧ Below W.heap.size W w' := by
  go_enter Tryz.func92, Tryz.ntmps92
  go_wp2_with (first | (go_at_call 102; refine (hlen 0 _ (by decide)).mono ?_; rintro e w' ⟨⟨l, rfl⟩, rfl⟩) | (go_at_call 101; refine (pdq0 _ _ _).mono ?_; rintro e w' ⟨rfl, hb⟩))
  go_end0
  exact ⟨rfl, hb⟩

theorem sortFunc.calls (ls : List Q) (v : Value) (B base : Nat) (w : World) (hr : Kd.R k52 52 w base (fun _ => True) v ls) (hB : w.cell? ⟨B, 0, none⟩ = some (.func (.func 64) #[] #[])) (hlt : B < base) (hb : base ≤ w.heap.size) (h12 : ls.length ≤ 12) :
    Calls Tryz.prog 92 #[v, .func (.func 79) #[] #[.pointer (some ⟨B, 0, none⟩)]] w fun e w' => e = .returned (.tuple #[]) ∧ Kd.R k52 52 w' base (fun _ => True) v (sortL ls) ∧ Below base w w' := by
  have hp := (sortL_holds ls).1
  have ho := flat_of_R hr
  have ho2 := ho
  obtain ⟨_, ⟨rfl, h0⟩ | ⟨g, cap, cur, rfl, hg, hh, r⟩⟩ := ho2
  · refine (sort0 _ _).mono ?_
    rintro e w' ⟨rfl, hbl⟩
    have hnil : ls = [] := List.eq_nil_of_length_eq_zero h0
    subst hnil
    have hs : sortL [] = [] := List.eq_nil_of_length_eq_zero hp.length_eq
    rw [hs]
    exact ⟨rfl, Kd.R_nil _ _ _ _ _, hbl.mono hb⟩
  · have hgl : g < w.heap.size := (Array.getElem?_eq_some_iff.1 hh).1
    have hcon := AnyQ.slices_SortFunc_small Lb.sort 2 agg30 size30 cells1 (fun _ => rfl) (fun x v hv => by simp [cells1] at hv; rcases hv with rfl | rfl <;> rfl) cmpQ 79 #[.pointer (some ⟨B, 0, none⟩)] g 0 cap ls.toArray w (enters_of Tryz.func79 (by kernel_rfl) rfl) (cmpLays B g _ w hB (by omega) (by omega) hgl) (holds_of_own ho) hgl (by simpa using h12) hlen
    change Calls Tryz.prog 92 _ _ _ at hcon
    rw [List.size_toArray] at hcon
    refine hcon.mono ?_
    rintro e w' ⟨rfl, n, os, rfl⟩
    have e1 : Sort.insertionSort (ltOf cmpQ) ls.toArray 0 ls.length = (sortL ls).toArray := by unfold sortL; simp
    rw [e1]
    have hl : (sortL ls).length = ls.length := hp.length_eq
    obtain ⟨h1, h2⟩ := own_of_sorted (n := n) (ls' := sortL ls) (os := os) ho hl
    refine ⟨rfl, R_of_flat ?_, h2⟩
    rw [← hl]; exact h1
end Go.Proofs.YthaegbiblblccaaGreatDoor.XEnt
