/- What the program's functions of chapter 1 come to, in the plain law's words. Conditions: enough rounds; texts no longer than any machine's. -/
import Derived.Test.YtmbigoeldobaiaaDoorNumLib
import Derived.Test.YtmbigoeldobaiaaDoorMrkNumP
import Derived.Test.YtmbigoeldobaiaaDoorXMrkP1
namespace Go.Proofs.YtmbigoeldobaiaaDoor.Num
open Go.RowKit Go.Proofs.YtmbigoeldobaiaaDoorW.PrintWords Go.Proofs.YtmbigoeldobaiaaDoorW.PrintMore Go.Proofs.YtmbigoeldobaiaaDoor.XMrk

theorem shl_ok {i c v : Nat} (hi : i ≤ 9) (hc : c < 128) (h9 : i = 9 → c ≤ 1) (hv : v < 2 ^ (7 * i)) : v + c * 2 ^ (7 * i) < 2 ^ 64 := by
  rcases (show i = 0 ∨ i = 1 ∨ i = 2 ∨ i = 3 ∨ i = 4 ∨ i = 5 ∨ i = 6 ∨ i = 7 ∨ i = 8 ∨ i = 9 by omega) with rfl | rfl | rfl | rfl | rfl | rfl | rfl | rfl | rfl | rfl
  all_goals first | (simp at hv ⊢; omega) | (have := h9 rfl; simp at hv ⊢; omega)
theorem shl_val {i c : Nat} (hi : i ≤ 9) (h : c * 2 ^ (7 * i) < 2 ^ 64) : shl .u64 (c : Int) (wrap64 (7 * (i : Int))) = ((c * 2 ^ (7 * i) : Nat) : Int) := by
  unfold shl
  rw [w64_id (by omega) (by omega), show (7 * (i : Int)).toNat = 7 * i by omega, Nat.min_eq_left (by simp only [IntKind.bits]; omega), show ((c : Int) * 2 ^ (7 * i)) = ((c * 2 ^ (7 * i) : Nat) : Int) by simp]
  exact u64_id (by omega) (by omega)
theorem j1_j2 (k : Nat) (s : ByteArray) (v z i c n x : Int) (b : Bool) : num_Take.j1 (k + 1) s v z i c n x b = num_Take.j2 k s v z i c n x (b || (decide (i > 0) && (c == 0))) := by
  simp only [num_Take.j1]
  cases b
  · by_cases h : i > 0 <;> simp [h]
  · simp
theorem take_l0 (l : List UInt8) (hl : l.length ≤ 140737488351232) : ∀ (d k i v : Nat), i + d = 9 → i ≤ l.length → v < 2 ^ (7 * i) → 3 * d + 3 ≤ k →
    num_Take.l0 k (bs l) (v : Int) (-1) (l.length : Int) (i : Int) = some (match dec i (l.drop i) with | some (n, r) => (((v + n * 2 ^ (7 * i) : Nat) : Int), bs r, 0) | none => (0, bs [], 2))
  | d, k, i, v, hi, hle, hv, hk => by
    obtain ⟨k, rfl⟩ : ∃ m, k = m + 3 := ⟨k - 3, by omega⟩
    simp only [num_Take.l0]
    by_cases h : i < l.length
    · obtain ⟨c, hcc⟩ : ∃ c, l[i] = c := ⟨_, rfl⟩
      have hd : l.drop i = c :: l.drop (i + 1) := by rw [← hcc]; exact List.drop_eq_getElem_cons h
      have hc := c.toNat_lt
      have hb : IntKind.u64.wrap (bt (bs l) (i : Int)) = (c.toNat : Int) := by rw [bt_bs l i h, hcc, u64_id (by omega) (by omega)]
      have w1 : wrap64 (7 * (i : Int)) = 7 * (i : Int) := w64_id (by omega) (by omega)
      have w2 : wrap64 ((i : Int) + 1) = ((i + 1 : Nat) : Int) := by rw [w64_id (by omega) (by omega)]; omega
      rw [if_pos (by omega), if_pos (by omega), if_pos (by rw [bs_size]; omega), hb, hd, dec]
      by_cases bad : i = 9 ∧ 1 < c.toNat ∨ 0 < i ∧ c.toNat = 0
      · rw [if_pos bad]
        have hj : num_Take.j2 (k + 1) (bs l) (v : Int) (-1) (i : Int) (c.toNat : Int) (l.length : Int) (i : Int) true = some (0, bs [], 2) := by
          simp only [num_Take.j2]
          rw [if_pos trivial, if_pos (by omega)]
          rfl
        by_cases h9 : (i : Int) = 9
        · rw [if_pos h9, j1_j2, show (decide ((c.toNat : Int) > 1) || (decide ((i : Int) > 0) && ((c.toNat : Int) == 0))) = true by
            rw [Bool.or_eq_true, Bool.and_eq_true, decide_eq_true_eq, decide_eq_true_eq, beq_iff_eq]; omega, hj]
        · rw [if_neg h9, j1_j2, show (false || (decide ((i : Int) > 0) && ((c.toNat : Int) == 0))) = true by
            rw [Bool.or_eq_true, Bool.and_eq_true, decide_eq_true_eq, beq_iff_eq]; omega, hj]
      · rw [if_neg bad]
        have hj : num_Take.j2 (k + 1) (bs l) (v : Int) (-1) (i : Int) (c.toNat : Int) (l.length : Int) (i : Int) false = some (match (if c.toNat < 128 then some (c.toNat, l.drop (i + 1)) else (dec (i + 1) (l.drop (i + 1))).map fun p => (c.toNat - 128 + 128 * p.1, p.2)) with | some (n, r) => (((v + n * 2 ^ (7 * i) : Nat) : Int), bs r, 0) | none => (0, bs [], 2)) := by
          simp only [num_Take.j2]
          rw [if_neg (by decide)]
          by_cases hlt : c.toNat < 128
          · have hs := shl_ok (c := c.toNat) (by omega : i ≤ 9) hlt (by omega) hv
            rw [if_pos hlt, if_pos (by omega), if_pos (by rw [w1]; omega), if_neg (by rw [w2]; omega), if_pos (by rw [w2]; omega), if_pos (by rw [w2, bs_size]; omega), shl_val (by omega) (by omega), or_low _ _ _ hv hs, w2, Int.toNat_natCast, bs_drop]
          · have hs := shl_ok (c := c.toNat % 128) (by omega : i ≤ 9) (by omega) (by omega) hv
            have hp : 2 ^ (7 * (i + 1)) = 128 * 2 ^ (7 * i) := by rw [Nat.mul_add, Nat.pow_add, Nat.mul_comm]
            have hq : c.toNat % 128 * 2 ^ (7 * i) ≤ 127 * 2 ^ (7 * i) := Nat.mul_le_mul_right _ (by omega)
            match d, hi, hk with
            | 0, hi, _ => omega
            | d + 1, hi, hk =>
              rw [if_neg hlt, if_neg (by omega), if_pos (by rw [w1]; omega), and127 _ (by omega), shl_val (by omega) (by omega), or_low _ _ _ hv hs, w2,
                take_l0 l hl d k (i + 1) _ (by omega) (by omega) (by rw [hp]; omega) (by omega), hp]
              rcases dec (i + 1) (l.drop (i + 1)) with _ | ⟨n, r⟩
              · rfl
              · simp only [Option.map_some, Option.some.injEq, Prod.mk.injEq, and_true]
                rw [show c.toNat % 128 = c.toNat - 128 by omega, Nat.add_mul, Nat.add_assoc, show 128 * n * 2 ^ (7 * i) = n * (128 * 2 ^ (7 * i)) by rw [Nat.mul_comm 128 n, Nat.mul_assoc]]
        by_cases h9 : (i : Int) = 9
        · rw [if_pos h9, j1_j2, show (decide ((c.toNat : Int) > 1) || (decide ((i : Int) > 0) && ((c.toNat : Int) == 0))) = false by
            rw [← Bool.not_eq_true, Bool.or_eq_true, Bool.and_eq_true, decide_eq_true_eq, decide_eq_true_eq, beq_iff_eq]; clear hb hd hcc; omega, hj]
        · rw [if_neg h9, j1_j2, show (false || (decide ((i : Int) > 0) && ((c.toNat : Int) == 0))) = false by
            rw [← Bool.not_eq_true, Bool.or_eq_true, Bool.and_eq_true, decide_eq_true_eq, beq_iff_eq]; simp only [Bool.false_eq_true]; intro hx; rcases hx with hx | hx
            · exact hx
            · exact bad (by clear hb hd hcc; omega), hj]
    · rw [if_neg (by omega), if_pos (by omega), List.drop_eq_nil_of_le (by omega)]
      rfl
theorem take_f {k : Nat} {l : List UInt8} (hl : l.length ≤ 140737488351232) (hk : 40 ≤ k) : num_Take.f k (bs l) = some (takeP l) := by
  unfold num_Take.f takeP
  rw [bs_size]
  have := take_l0 l hl 9 k 0 0 rfl (by omega) (by simp) (by omega)
  simp only [Int.natCast_zero, List.drop_zero, Nat.mul_zero, Nat.pow_zero, Nat.mul_one, Nat.zero_add] at this
  exact this
theorem mx0 {a : Int} (h : -9223372036854775808 ≤ a ∧ a < 9223372036854775808) : 0 ≤ mx a 0 ∧ mx a 0 < 9223372036854775808 := by unfold mx; split <;> omega
theorem takeText_f {k : Nat} {l : List UInt8} {most : Int} (hm : -9223372036854775808 ≤ most ∧ most < 9223372036854775808) (hl : l.length ≤ 140737488351232) (hk : 40 ≤ k) : num_TakeText.f k (bs l) most = some (takeTP l most) := by
  unfold num_TakeText.f takeTP
  have hx := mx0 hm
  rw [take_f hl hk]
  unfold takeP
  rcases hd : dec 0 l with _ | ⟨n, r⟩
  · rfl
  · obtain ⟨e, hn⟩ := dec_some hd
    have hr : r.length ≤ l.length := by rw [e, List.length_append]; omega
    simp only [bsome]
    rw [if_pos trivial, u64_id hx.1 (by omega), bs_size, u64_id (by omega) (by omega)]
    by_cases h1 : (n : Int) > mx most 0
    · rw [if_pos h1, if_pos h1]; rfl
    · rw [if_neg h1, if_neg h1]
      by_cases h2 : n > r.length
      · rw [if_pos (by omega), if_pos h2]; rfl
      · rw [if_neg (by omega), if_neg h2, if_pos (by omega), if_pos (by omega), Int.toNat_natCast, bs_take, ← bs_size r, bs_drop]
theorem tdiv_nat (n m : Nat) : Int.tdiv (n : Int) (m : Int) = ((n / m : Nat) : Int) := rfl
theorem tmod_nat (n m : Nat) : Int.tmod (n : Int) (m : Int) = ((n % m : Nat) : Int) := rfl
theorem rput_l0 : ∀ (k n : Nat) (acc : List Int), n < 18446744073709551616 → (enc n).length ≤ k → acc.length + (enc n).length ≤ 1000 →
    postroomref1_Put.l0 k (n : Int) acc = some (bs (acc.map (fun x => UInt8.ofNat x.toNat) ++ enc n))
  | 0, n, acc, _, h, _ => by have := enc_pos n; omega
  | k + 1, n, acc, hn, h, hl => by
    have hp := enc_pos n
    simp only [postroomref1_Put.l0]
    rw [show Int.tdiv (n : Int) 128 = ((n / 128 : Nat) : Int) from tdiv_nat n 128, show Int.tmod (n : Int) 128 = ((n % 128 : Nat) : Int) from tmod_nat n 128, u64_id (by omega) (by omega)]
    by_cases h1 : n < 128
    · rw [if_pos (by omega), if_pos (by omega), enc_small h1, strOfNums_bs, List.map_append, show (((n % 128 : Nat) : Int) % 256) = (n : Int) by omega]
      rfl
    · rw [enc_big h1] at h hl ⊢
      rw [if_neg (by omega), if_pos (by omega), show ((128 + ((n % 128 : Nat) : Int)) % 256) = ((n % 128 + 128 : Nat) : Int) by omega]
      simp only [List.length_cons] at h hl
      rw [rput_l0 k (n / 128) _ (by omega) (by omega) (by simp only [List.length_append, List.length_cons, List.length_nil]; omega), List.map_append, List.append_assoc]
      rfl
theorem rput_f {k n : Nat} (hn : n < 18446744073709551616) (hk : 10 ≤ k) : postroomref1_Put.f k (n : Int) = some (bs (enc n)) := by
  have := enc_len10 hn
  unfold postroomref1_Put.f
  rw [rput_l0 k n [] hn (by omega) (by simp only [List.length_nil]; omega)]
  rfl
theorem rputText_f {k : Nat} {l : List UInt8} (hl : l.length ≤ 140737488351232) (hk : 10 ≤ k) : postroomref1_PutText.f k (bs l) = some (bs (encT l)) := by
  unfold postroomref1_PutText.f
  have := enc_len10 (n := l.length) (by omega)
  rw [bs_size, u64_id (by omega) (by omega), rput_f (by omega) hk]
  simp only [bsome]
  rw [bs_size, if_pos (by omega), bs_app]
  rfl
theorem val_lt (l : List UInt8) (a : Nat) (ha : a < 18446744073709551616) : val l a < 18446744073709551616 := by
  cases l with
  | nil => exact ha
  | cons c l => simp only [val]; exact Nat.mod_lt _ (by decide)
theorem val_one (c : UInt8) (acc : Nat) : val [c] acc = (128 * acc + c.toNat % 128) % 18446744073709551616 := by simp only [val]
theorem rtake_sum (c : UInt8) (acc : Nat) : ((128 * (acc : Int)) % 18446744073709551616 + ((c.toNat % 128 : Nat) : Int)) % 18446744073709551616 = ((val [c] acc : Nat) : Int) := by rw [val_one]; omega
theorem rtake_l1 (l : List UInt8) (hl : l.length ≤ 140737488351232) (m : Nat) (hm : m < l.length) : ∀ (j k acc : Nat), j ≤ l.length → acc < 18446744073709551616 → j + 12 ≤ k →
    postroomref1_Take.l1 k (bs l) (m : Int) (acc : Int) ((j : Int) - 1) = some (if enc (val (l.take j) acc) = l.take (m + 1) then ((val (l.take j) acc : Int), bs (l.drop (m + 1)), 0) else (0, bs [], 2))
  | 0, k, acc, _, ha, hk => by
    obtain ⟨k, rfl⟩ : ∃ m, k = m + 1 := ⟨k - 1, by omega⟩
    have w : wrap64 ((m : Int) + 1) = ((m + 1 : Nat) : Int) := by rw [w64_id (by omega) (by omega)]; omega
    simp only [postroomref1_Take.l1]
    rw [if_neg (by omega), rput_f ha (by omega)]
    rw [bsome, List.take_zero, show val [] acc = acc from rfl, w, if_pos (by omega), if_pos (by rw [bs_size]; omega), Int.toNat_natCast, bs_take, bs_toList, bs_toList, bs_drop]
    by_cases h : enc acc = l.take (m + 1)
    · rw [if_pos h, if_pos h]
    · rw [if_neg h, if_neg h]; rfl
  | j + 1, k, acc, hj, ha, hk => by
    obtain ⟨k, rfl⟩ : ∃ m, k = m + 1 := ⟨k - 1, by omega⟩
    obtain ⟨c, hcc⟩ : ∃ c, l[j]'(by omega) = c := ⟨_, rfl⟩
    have hc := c.toNat_lt
    have hb : bt (bs l) (j : Int) = (c.toNat : Int) := by rw [bt_bs l j (by omega), hcc]
    have ht : l.take (j + 1) = l.take j ++ [c] := by rw [← hcc]; exact (List.take_append_getElem (by omega)).symm
    have hm1 : Int.tmod (c.toNat : Int) 128 = ((c.toNat % 128 : Nat) : Int) := tmod_nat _ 128
    have hs := rtake_sum c acc
    have ih := rtake_l1 l hl m hm j k (val [c] acc) (by omega) (val_lt _ _ ha) (by omega)
    simp only [postroomref1_Take.l1]
    rw [show (((j + 1 : Nat) : Int) - 1) = (j : Int) by omega, if_pos (by omega), if_pos (by omega), if_pos (by rw [bs_size]; omega), hb, hm1,
      w64_id (by omega) (by omega), u64_wrap (128 * (acc : Int)), u64_id (x := ((c.toNat % 128 : Nat) : Int)) (by omega) (by omega), u64_wrap, hs, ih, ht, val_app]
theorem rtake_l0 (l : List UInt8) (hl : l.length ≤ 140737488351232) : ∀ (d k i : Nat), i + d = 10 → i ≤ l.length → d + 1 ≤ k →
    ∃ k', k ≤ k' + d + 1 ∧ postroomref1_Take.l0 k (bs l) (i : Int) = postroomref1_Take.j1 k' (bs l) ((i + lead (l.drop i) d : Nat) : Int)
  | d, k, i, hi, hle, hk => by
    obtain ⟨k, rfl⟩ : ∃ m, k = m + 1 := ⟨k - 1, by omega⟩
    simp only [postroomref1_Take.l0]
    by_cases h : i < l.length
    · rw [if_pos (by rw [bs_size]; omega)]
      match d, hi, hk with
      | 0, hi, _ => exact ⟨k, by omega, by rw [if_neg (by omega), show lead (l.drop i) 0 = 0 by simp only [lead], Nat.add_zero]⟩
      | d + 1, hi, hk =>
        have hd : l.drop i = l[i] :: l.drop (i + 1) := List.drop_eq_getElem_cons h
        rw [if_pos (by omega), if_pos (by omega), bt_bs l i h, hd]
        simp only [lead]
        by_cases hc : 128 ≤ (l[i]).toNat
        · rw [if_pos (by omega), if_pos hc, show wrap64 ((i : Int) + 1) = ((i + 1 : Nat) : Int) by rw [w64_id (by omega) (by omega)]; omega]
          obtain ⟨k', h1, h2⟩ := rtake_l0 l hl d k (i + 1) (by omega) (by omega) (by omega)
          exact ⟨k', by omega, by rw [h2, show i + 1 + lead (l.drop (i + 1)) d = i + (lead (l.drop (i + 1)) d + 1) by omega]⟩
        · rw [if_neg (by omega), if_neg hc]
          exact ⟨k, by omega, rfl⟩
    · refine ⟨k, by omega, ?_⟩
      rw [if_neg (by rw [bs_size]; omega), List.drop_eq_nil_of_le (by omega)]
      cases d <;> rfl
theorem rtake_f {k : Nat} {l : List UInt8} (hl : l.length ≤ 140737488351232) (hk : 60 ≤ k) : postroomref1_Take.f k (bs l) = some (takeP l) := by
  unfold postroomref1_Take.f
  obtain ⟨k', h1, h2⟩ := rtake_l0 l hl 10 k 0 rfl (by omega) (by omega)
  have hle := lead_le 10 l
  simp only [Int.natCast_zero, List.drop_zero, Nat.zero_add] at h2
  rw [h2, doc_take]
  obtain ⟨k', rfl⟩ : ∃ m, k' = m + 2 := ⟨k' - 2, by omega⟩
  simp only [postroomref1_Take.j1, postroomref1_Take.j2]
  rw [bs_size]
  by_cases h : l.length ≤ lead l 10 ∨ 10 ≤ lead l 10
  · rw [if_pos h]
    by_cases h3 : l.length ≤ lead l 10
    · rw [if_pos (by omega), if_pos trivial]; rfl
    · rw [if_neg (by omega), if_pos (by rw [decide_eq_true_eq]; omega)]; rfl
  · have := rtake_l1 l hl (lead l 10) (by omega) (lead l 10 + 1) k' 0 (by omega) (by omega) (by omega)
    rw [show (((lead l 10 + 1 : Nat) : Int) - 1) = ((lead l 10 : Nat) : Int) by omega] at this
    rw [if_neg h, if_neg (by omega), if_neg (by rw [decide_eq_true_eq]; omega)]
    exact this
theorem rtakeText_f {k : Nat} {l : List UInt8} {most : Int} (hm : -9223372036854775808 ≤ most ∧ most < 9223372036854775808) (hl : l.length ≤ 140737488351232) (hk : 60 ≤ k) : postroomref1_TakeText.f k (bs l) most = some (takeTP l most) := by
  unfold postroomref1_TakeText.f takeTP
  have hx := mx0 hm
  rw [rtake_f hl hk]
  unfold takeP
  rcases hd : dec 0 l with _ | ⟨n, r⟩
  · rfl
  · obtain ⟨e, hn⟩ := dec_some hd
    have hr : r.length ≤ l.length := by rw [e, List.length_append]; omega
    simp only [bsome]
    rw [if_pos trivial, u64_id hx.1 (by omega), bs_size, u64_id (by omega) (by omega)]
    by_cases h1 : (n : Int) > mx most 0
    · rw [if_pos h1, if_pos h1]; rfl
    · rw [if_neg h1, if_neg h1]
      by_cases h2 : n > r.length
      · rw [if_pos (by omega), if_pos h2]; rfl
      · rw [if_neg (by omega), if_neg h2, if_pos (by omega), if_pos (by omega), Int.toNat_natCast, bs_take, ← bs_size r, bs_drop]
end Go.Proofs.YtmbigoeldobaiaaDoor.Num
