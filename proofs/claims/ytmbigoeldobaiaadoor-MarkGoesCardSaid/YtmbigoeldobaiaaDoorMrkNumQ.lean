/- What the program's functions of chapter 1 come to, in the plain law's words. Conditions: enough rounds; texts no longer than any machine's. -/
import Derived.Test.YtmbigoeldobaiaaDoorNumLib
import Derived.Test.YtmbigoeldobaiaaDoorMrkNumP
import Derived.Test.YtmbigoeldobaiaaDoorXMrkP1
namespace Go.Proofs.YtmbigoeldobaiaaDoor.Num
open Go.RowKit Go.Proofs.YtmbigoeldobaiaaDoorW.PrintWords Go.Proofs.YtmbigoeldobaiaaDoorW.PrintMore Go.Proofs.YtmbigoeldobaiaaDoor.XMrk

theorem shl_ok {i c v : Nat} (hi : i ≤ 9) (hc : c < 128) (h9 : i = 9 → c ≤ 1) (hv : v < 2 ^ (7 * i)) : v + c * 2 ^ (7 * i) < 2 ^ 64 := by
 rcases (show i = 0 ∨ i = 1 ∨ i = 2 ∨ i = 3 ∨ i = 4 ∨ i = 5 ∨ i = 6 ∨ i = 7 ∨ i = 8 ∨ i = 9 by omega) with rfl | rfl | rfl | rfl | rfl | rfl | rfl | rfl | rfl | rfl
 all_goals first | (simp at hv ⊢; omega) | (have := h9 rfl; simp at hv ⊢; omega)
theorem shl_val {i c : Nat} (hi : i ≤ 9) (h : c * 2 ^ (7 * i) < 2 ^ 64) : shl .u64 (c : Int) (wrap64 (7 * (i : Int))) = ((c * 2 ^ (7 * i) : Nat) : Int) := by
 unfold shl
 rw [w64_id (by omega) (by omega), show (7 * (i : Int)).toNat = 7 * i by omega, Nat.min_eq_left (by simp only [IntKind.bits]; omega), show ((c : Int) * 2 ^ (7 * i)) = ((c * 2 ^ (7 * i) : Nat) : Int) by simp]
 exact u64_id (by omega) (by omega)
theorem j1_j2 (k : Nat) (s : ByteArray) (v z i c n x : Int) (b : Bool) : num_Take.j1 (k + 1) s v z i c n x b = num_Take.j2 k s v z i c n x (b || (decide (i > 0) && (c == 0))) := by
 simp only [num_Take.j1]
 cases b
 ·by_cases h : i > 0 <;> simp [h]
 ·simp
theorem take_l0 (l : List UInt8) (hl : l.length ≤ 140737488351232) : ∀ (d k i v : Nat), i + d = 9 → i ≤ l.length → v < 2 ^ (7 * i) → 3 * d + 3 ≤ k →
  num_Take.l0 k (bs l) (v : Int) (-1) (l.length : Int) (i : Int) = some (match dec i (l.drop i) with | some (n, r) => (((v + n * 2 ^ (7 * i) : Nat) : Int), bs r, 0) | none => (0, bs [], 2))
 | d, k, i, v, hi, hle, hv, hk => by
  obtain ⟨k, rfl⟩ : ∃ m, k = m + 3 := ⟨k - 3, by omega⟩
  simp only [num_Take.l0]
  by_cases h : i < l.length
  ·obtain ⟨c, hcc⟩ : ∃ c, l[i] = c := ⟨_, rfl⟩
   have hd : l.drop i = c :: l.drop (i + 1) := by rw [← hcc]; exact List.drop_eq_getElem_cons h
   have hc := c.toNat_lt
   have hb : IntKind.u64.wrap (bt (bs l) (i : Int)) = (c.toNat : Int) := by rw [bt_bs l i h, hcc, u64_id (by omega) (by omega)]
   have w1 : wrap64 (7 * (i : Int)) = 7 * (i : Int) := w64_id (by omega) (by omega)
   have w2 : wrap64 ((i : Int) + 1) = ((i + 1 : Nat) : Int) := by rw [w64_id (by omega) (by omega)]; omega
   rw [if_pos (by omega), if_pos (by omega), if_pos (by rw [bs_size]; omega), hb, hd, dec]
   by_cases bad : i = 9 ∧ 1 < c.toNat ∨ 0 < i ∧ c.toNat = 0
   ·rw [if_pos bad]
    have hj : num_Take.j2 (k + 1) (bs l) (v : Int) (-1) (i : Int) (c.toNat : Int) (l.length : Int) (i : Int) true = some (0, bs [], 2) := by
     simp only [num_Take.j2]
     rw [if_pos trivial, if_pos (by omega)]
     rfl
    by_cases h9 : (i : Int) = 9
    ·rw [if_pos h9, j1_j2, show (decide ((c.toNat : Int) > 1) || (decide ((i : Int) > 0) && ((c.toNat : Int) == 0))) = true by
      rw [Bool.or_eq_true, Bool.and_eq_true, decide_eq_true_eq, decide_eq_true_eq, beq_iff_eq]; omega, hj]
    ·rw [if_neg h9, j1_j2, show (false || (decide ((i : Int) > 0) && ((c.toNat : Int) == 0))) = true by
      rw [Bool.or_eq_true, Bool.and_eq_true, decide_eq_true_eq, beq_iff_eq]; omega, hj]
   ·rw [if_neg bad]
    have hj : num_Take.j2 (k + 1) (bs l) (v : Int) (-1) (i : Int) (c.toNat : Int) (l.length : Int) (i : Int) false = some (match (if c.toNat < 128 then some (c.toNat, l.drop (i + 1)) else (dec (i + 1) (l.drop (i + 1))).map fun p => (c.toNat - 128 + 128 * p.1, p.2)) with | some (n, r) => (((v + n * 2 ^ (7 * i) : Nat) : Int), bs r, 0) | none => (0, bs [], 2)) := by
     simp only [num_Take.j2]
     rw [if_neg (by decide)]
     by_cases hlt : c.toNat < 128
     ·have hs := shl_ok (c := c.toNat) (by omega : i ≤ 9) hlt (by omega) hv
      rw [if_pos hlt, if_pos (by omega), if_pos (by rw [w1]; omega), if_neg (by rw [w2]; omega), if_pos (by rw [w2]; omega), if_pos (by rw [w2, bs_size]; omega), shl_val (by omega) (by omega), or_low _ _ _ hv hs, w2, Int.toNat_natCast, bs_drop]
     ·have hs := shl_ok (c := c.toNat % 128) (by omega : i ≤ 9) (by omega) (by omega) hv
      have hp : 2 ^ (7 * (i + 1)) = 128 * 2 ^ (7 * i) := by rw [Nat.mul_add, Nat.pow_add, Nat.mul_comm]
      have hq : c.toNat % 128 * 2 ^ (7 * i) ≤ 127 * 2 ^ (7 * i) := Nat.mul_le_mul_right _ (by omega)
      match d, hi, hk with
      | 0, hi, _ => omega
      | d + 1, hi, hk =>
       rw [if_neg hlt, if_neg (by omega), if_pos (by rw [w1]; omega), and127 _ (by omega), shl_val (by omega) (by omega), or_low _ _ _ hv hs, w2,
        take_l0 l hl d k (i + 1) _ (by omega) (by omega) (by rw [hp]; omega) (by omega), hp]
       rcases dec (i + 1) (l.drop (i + 1)) with _ | ⟨n, r⟩
       ·rfl
       ·simp only [Option.map_some, Option.some.injEq, Prod.mk.injEq, and_true]
        rw [show c.toNat % 128 = c.toNat - 128 by omega, Nat.add_mul, Nat.add_assoc, show 128 * n * 2 ^ (7 * i) = n * (128 * 2 ^ (7 * i)) by rw [Nat.mul_comm 128 n, Nat.mul_assoc]]
    by_cases h9 : (i : Int) = 9
    ·rw [if_pos h9, j1_j2, show (decide ((c.toNat : Int) > 1) || (decide ((i : Int) > 0) && ((c.toNat : Int) == 0))) = false by
      rw [← Bool.not_eq_true, Bool.or_eq_true, Bool.and_eq_true, decide_eq_true_eq, decide_eq_true_eq, beq_iff_eq]; clear hb hd hcc; omega, hj]
    ·rw [if_neg h9, j1_j2, show (false || (decide ((i : Int) > 0) && ((c.toNat : Int) == 0))) = false by
      rw [← Bool.not_eq_true, Bool.or_eq_true, Bool.and_eq_true, decide_eq_true_eq, beq_iff_eq]; simp only [Bool.false_eq_true]; intro hx; rcases hx with hx | hx
      ·exact hx
      ·exact bad (by clear hb hd hcc; omega), hj]
  ·rw [if_neg (by omega), if_pos (by omega), List.drop_eq_nil_of_le (by omega)]
   rfl
theorem take_f {k : Nat} {l : List UInt8} (hl : l.length ≤ 140737488351232) (hk : 40 ≤ k) : num_Take.f k (bs l) = some (takeP l) := by
 unfold num_Take.f takeP
 rw [bs_size]
 have := take_l0 l hl 9 k 0 0 rfl (by omega) (by simp) (by omega)
 simp only [Int.natCast_zero, List.drop_zero, Nat.mul_zero, Nat.pow_zero, Nat.mul_one, Nat.zero_add] at this
 exact this
theorem mx0 {a : Int} (h : -9223372036854775808 ≤ a ∧ a < 9223372036854775808) : 0 ≤ mx a 0 ∧ mx a 0 < 9223372036854775808 := by unfold mx; split <;> omega
theorem takeText_f {k : Nat} {l : List UInt8} {most : Int} (hm : -9223372036854775808 ≤ most ∧ most < 9223372036854775808) (hl : l.length ≤ 140737488351232) (hk : 40 ≤ k) : num_TakeText.f k (bs l) most = some (takeTP l most) := by
 unfold num_TakeText.f takeTP
 have hx := mx0 hm
 rw [take_f hl hk]
 unfold takeP
 rcases hd : dec 0 l with _ | ⟨n, r⟩
 ·rfl
 ·obtain ⟨e, hn⟩ := dec_some hd
  have hr : r.length ≤ l.length := by rw [e, List.length_append]; omega
  simp only [bsome]
  rw [if_pos trivial, u64_id hx.1 (by omega), bs_size, u64_id (by omega) (by omega)]
  by_cases h1 : (n : Int) > mx most 0
  ·rw [if_pos h1, if_pos h1]; rfl
  ·rw [if_neg h1, if_neg h1]
   by_cases h2 : n > r.length
   ·rw [if_pos (by omega), if_pos h2]; rfl
   ·rw [if_neg (by omega), if_neg h2, if_pos (by omega), if_pos (by omega), Int.toNat_natCast, bs_take, ← bs_size r, bs_drop]
end Go.Proofs.YtmbigoeldobaiaaDoor.Num
