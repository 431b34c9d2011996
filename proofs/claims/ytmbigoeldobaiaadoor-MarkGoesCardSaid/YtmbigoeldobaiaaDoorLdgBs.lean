/- slices.BinarySearch at a row that rises: where a number stands, or would, and whether it does. Conditions: those that each theorem names. -/
import Derived.Test.YtmbigoeldobaiaaDoorNumLib
import Derived.Test.YtmbigoeldobaiaaDoorXMrkP1
namespace Go.Proofs.YtmbigoeldobaiaaDoor.XMrk
open Go Go.RowKit Go.Proofs.YtmbigoeldobaiaaDoorW.PrintWords Go.Proofs.YtmbigoeldobaiaaDoorW.PrintLast Go.Proofs.YtmbigoeldobaiaaDoorW.PrintMore Go.Proofs.YtmbigoeldobaiaaDoor.Num
set_option linter.unusedVariables false
set_option linter.unusedSimpArgs false
/-- Where a number stands, or would, in a row that rises. -/
def posN (l : List Int) (x : Int) : Nat := (l.filter (· < x)).length
theorem posN_le (l : List Int) (x : Int) : posN l x ≤ l.length := List.length_filter_le _ _
theorem posN_eq {l : List Int} {x : Int} {i : Nat} (hi : i ≤ l.length) (h1 : ∀ q (h : q < l.length), q < i → l[q] < x) (h2 : ∀ q (h : q < l.length), i ≤ q → x ≤ l[q]) : posN l x = i := by
 unfold posN
 have e1 : (l.take i).filter (· < x) = l.take i := by
  rw [List.filter_eq_self]
  intro y hy
  obtain ⟨q, hq, rfl⟩ := List.mem_iff_getElem.1 hy
  rw [List.length_take] at hq
  rw [List.getElem_take]
  simpa using h1 q (by omega) (by omega)
 have e2 : (l.drop i).filter (· < x) = [] := by
  rw [List.filter_eq_nil_iff]
  intro y hy
  obtain ⟨q, hq, rfl⟩ := List.mem_iff_getElem.1 hy
  rw [List.length_drop] at hq
  rw [List.getElem_drop]
  have := h2 (i + q) (by omega) (by omega)
  simp; omega
 have : l.filter (· < x) = l.take i := by
  rw [← List.take_append_drop i l, List.filter_append, List.take_append_drop, e1, e2, List.append_nil]
 rw [this, List.length_take, Nat.min_eq_left hi]
theorem pair_lt {l : List Int} (h : l.Pairwise (· < ·)) {p q : Nat} (hpq : p < q) (hq : q < l.length) : l[p] < l[q] := List.pairwise_iff_getElem.1 h p q (by omega) hq hpq
theorem less_u (a b : Int) : cmp_Less_uint64.f a b = some (decide (a < b)) := by
 unfold cmp_Less_uint64.f cmp_isNaN_uint64.f
 simp
theorem bs_l0 (l : List Int) (x : Int) (hs : l.Pairwise (· < ·)) (hl : l.length ≤ 1000000000) : ∀ (d i j : Nat), j - i ≤ d → i ≤ j → j ≤ l.length → (∀ q (h : q < l.length), q < i → l[q] < x) → (∀ q (h : q < l.length), j ≤ q → x ≤ l[q]) →
  Ev (fun k => slices_BinarySearch_uint64_uint64.l0 k l x (l.length : Int) (i : Int) (j : Int)) ((posN l x : Int), decide (x ∈ l))
 | d, i, j, hd, hij, hj, h1, h2 => by
  by_cases c : i < j
  ·obtain ⟨m, hm⟩ : ∃ m, (i + j) / 2 = m := ⟨_, rfl⟩
   have hmi : i ≤ m := by omega
   have hmj : m < j := by omega
   have e1 : wrap64 ((IntKind.u64.wrap (wrap64 ((i : Int) + (j : Int)))) / 2) = (m : Int) := by
    rw [w64_id (x := (i : Int) + (j : Int)) (by omega) (by omega), u64_id (by omega) (by omega), w64_id (by omega) (by omega)]
    omega
   have hrd : rd l (m : Int) = l[m] := by unfold rd; rw [Int.toNat_natCast, List.getD_eq_getElem?_getD, List.getElem?_eq_getElem (by omega)]; rfl
   match d, hd with
   | 0, hd => omega
   | d + 1, hd =>
    by_cases c2 : l[m] < x
    ·refine Ev.step (fun k => by rw [slices_BinarySearch_uint64_uint64.l0, if_pos (by omega), e1, if_pos (by omega), if_pos (by omega), hrd, less_u, bsome, decide_eq_true c2, if_pos rfl, show wrap64 ((m : Int) + 1) = ((m + 1 : Nat) : Int) by rw [w64_id (by omega) (by omega)]; omega]) ?_
     refine bs_l0 l x hs hl d (m + 1) j (by omega) (by omega) hj (fun q h hq => ?_) h2
     rcases Nat.lt_or_ge q m with h3 | h3
     ·have := pair_lt hs h3 (by omega : m < l.length); omega
     ·have : q = m := by omega
      subst this; exact c2
    ·refine Ev.step (fun k => by rw [slices_BinarySearch_uint64_uint64.l0, if_pos (by omega), e1, if_pos (by omega), if_pos (by omega), hrd, less_u, bsome, decide_eq_false c2, if_neg (by decide)]) ?_
     refine bs_l0 l x hs hl d i m (by omega) (by omega) (by omega) h1 (fun q h hq => ?_)
     rcases Nat.lt_or_ge m q with h3 | h3
     ·have := pair_lt hs h3 h; omega
     ·have : q = m := by omega
      subst this; omega
  ·obtain rfl : i = j := by omega
   rw [posN_eq hj h1 h2]
   by_cases c3 : i < l.length
   ·have hrd : rd l (i : Int) = l[i] := by unfold rd; rw [Int.toNat_natCast, List.getD_eq_getElem?_getD, List.getElem?_eq_getElem c3]; rfl
    by_cases c4 : l[i] = x
    ·rw [decide_eq_true (c4 ▸ List.getElem_mem c3)]
     exact Ev.step (f := fun _ => some ((i : Int), true)) (fun k => by rw [slices_BinarySearch_uint64_uint64.l0, if_neg (by omega), if_pos (by omega), if_pos (by omega), if_pos (by omega), hrd, if_pos c4]) (Ev.now _)
    ·have hn : x ∉ l := fun hx => by
      obtain ⟨q, hq, e⟩ := List.mem_iff_getElem.1 hx
      rcases Nat.lt_trichotomy q i with h3 | h3 | h3
      ·have := h1 q hq h3; omega
      ·subst h3; exact c4 e
      ·have := pair_lt hs h3 hq; have := h2 i c3 (Nat.le_refl _); omega
     rw [decide_eq_false hn]
     refine Ev.step (f := fun _ => some ((i : Int), false)) (fun k => ?_) (Ev.now _)
     rw [slices_BinarySearch_uint64_uint64.l0, if_neg (by omega), if_pos (by omega), if_pos (by omega), if_pos (by omega), hrd, if_neg c4]
     unfold slices_isNaN_uint64.f
     simp
   ·have hn : x ∉ l := fun hx => by
     obtain ⟨q, hq, e⟩ := List.mem_iff_getElem.1 hx
     have := h1 q hq (by omega); omega
    rw [decide_eq_false hn]
    exact Ev.step (f := fun _ => some ((i : Int), false)) (fun k => by rw [slices_BinarySearch_uint64_uint64.l0, if_neg (by omega), if_neg (by omega)]) (Ev.now _)
theorem bs_f (l : List Int) (x : Int) (hs : l.Pairwise (· < ·)) (hl : l.length ≤ 1000000000) : Ev (fun k => slices_BinarySearch_uint64_uint64.f k l x) ((posN l x : Int), decide (x ∈ l)) := by
 unfold slices_BinarySearch_uint64_uint64.f
 exact bs_l0 l x hs hl l.length 0 l.length (by omega) (by omega) (Nat.le_refl _) (fun q h hq => by omega) (fun q h hq => by omega)
end Go.Proofs.YtmbigoeldobaiaaDoor.XMrk
