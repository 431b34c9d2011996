/- The pure statement NumFirst: no number's bytes begin another one's, and cut off they are none. Conditions: none. -/
import Derived.Test.YtipeojncbkdllaaNumLaws
import Derived.Test.YtipeojncbkdllaaXNumx1
import Derived.Test.YtipeojncbkdllaaXNumx4
import Derived.Test.YtipeojncbkdllaaXNumx5
namespace Go.Proofs.Ytipeojncbkdllaa.Num
open Go.RowKit Go.Proofs.YtipeojncbkdllaaW.PrintWords Go.Proofs.YtipeojncbkdllaaW.PrintMore Go.Proofs.Ytipeojncbkdllaa.XNum

theorem pick_f (c : Int) (n : Nat) (hc : -9223372036854775808 ≤ c ∧ c < 9223372036854775808) (hn : 0 < n) (hn2 : n < 9223372036854775808) : ∃ t : Nat, postroomlaw1_pick.f c (n : Int) = some (t : Int) ∧ t < n := by
  have key : ∀ x : Nat, ∃ t : Nat, Int.tmod (x : Int) (n : Int) = (t : Int) ∧ t < n := fun x => ⟨x % n, tmod_nat x n, Nat.mod_lt _ hn⟩
  unfold postroomlaw1_pick.f
  by_cases h : c < 0
  · obtain ⟨x, hx⟩ := Int.eq_ofNat_of_zero_le (a := -(c + 1)) (by omega)
    rw [if_pos h, if_neg (by omega), w64_id (x := c + 1) (by omega) (by omega), w64_id (by omega) (by omega), hx]
    obtain ⟨t, h1, h2⟩ := key x
    exact ⟨t, by rw [h1], h2⟩
  · obtain ⟨x, hx⟩ := Int.eq_ofNat_of_zero_le (a := c) (by omega)
    rw [if_neg h, if_neg (by omega), hx]
    obtain ⟨t, h1, h2⟩ := key x
    exact ⟨t, by rw [h1], h2⟩
theorem dec_cut {n t : Nat} (hn : n < 18446744073709551616) (ht : t < (enc n).length) : dec 0 ((enc n).take t) = none := by
  refine dec_none fun m r hm e => ?_
  have h : enc n ++ [] = enc m ++ (r ++ (enc n).drop t) := by rw [List.append_nil, ← List.append_assoc, ← e, List.take_append_drop]
  have := (enc_inj hn hm h).2
  have h2 := congrArg List.length this
  rw [List.length_append, List.length_drop, List.length_nil] at h2
  omega
theorem dec_high : ∀ (l : List UInt8) (i : Nat), (∀ c ∈ l, 128 ≤ c.toNat) → dec i l = none
  | [], _, _ => rfl
  | c :: l, i, h => by
    have hc := h c (by simp)
    rw [dec]
    split
    · rfl
    · rw [if_neg (by omega), dec_high l (i + 1) (fun d hd => h d (by simp [hd]))]; rfl
theorem enc_init : ∀ (d n : Nat), n < 128 ^ (d + 1) → ∀ c ∈ (enc n).take ((enc n).length - 1), 128 ≤ c.toNat
  | 0, n, h => by rw [enc_small (by simpa using h)]; simp
  | d + 1, n, h => by
    by_cases hn : n < 128
    · rw [enc_small hn]; simp
    · have hp := enc_pos (n / 128)
      rw [enc_big hn, List.length_cons, show (enc (n / 128)).length + 1 - 1 = ((enc (n / 128)).length - 1) + 1 by omega, List.take_succ_cons]
      intro c hc
      rcases List.mem_cons.1 hc with rfl | hc
      · rw [u8_toNat (by omega)]; omega
      · exact enc_init d (n / 128) (by rw [Nat.pow_succ] at h; exact Nat.div_lt_of_lt_mul (by omega)) c hc
/-- Of the groups' count. -/
theorem first_l0 (a0 a1 a2 : Int) (x y : List UInt8) (hy : y ≠ []) : ∀ (k n g : Nat), n < 18446744073709551616 → (enc n).length ≤ k → g + (enc n).length ≤ 1000 → x.length = g + (enc n).length - 1 →
    ∃ k', k ≤ k' + (enc n).length ∧ postroomlaw1_NumFirst.l0 k a0 a1 a2 (bs x) (bs y) (g : Int) ((n / 128 : Nat) : Int) = postroomlaw1_NumFirst.j1 k' a0 a1 a2 (bs x) (bs y) false
  | 0, n, g, _, h, _, _ => by have := enc_pos n; omega
  | k + 1, n, g, hn, h, hl, hx => by
    have hp := enc_pos n
    have hp2 := enc_pos (n / 128)
    simp only [postroomlaw1_NumFirst.l0]
    by_cases h1 : n < 128
    · rw [enc_small h1] at hx ⊢
      refine ⟨k, by simp, ?_⟩
      have : y.length ≠ 0 := fun h0 => hy (List.length_eq_zero_iff.1 h0)
      simp only [List.length_cons, List.length_nil] at hx
      rw [if_neg (by omega), bs_size, bs_size, if_pos (by omega), show ((y.length : Int) == 0) = false by rw [beq_eq_false_iff_ne]; omega]
    · rw [enc_big h1] at h hl hx ⊢
      simp only [List.length_cons] at h hl hx ⊢
      obtain ⟨k', e1, e2⟩ := first_l0 a0 a1 a2 x y hy k (n / 128) (g + 1) (by omega) (by omega) (by omega) (by omega)
      refine ⟨k', by omega, ?_⟩
      rw [if_pos (by omega), w64_id (by omega) (by omega), show Int.tdiv ((n / 128 : Nat) : Int) 128 = ((n / 128 / 128 : Nat) : Int) from tdiv_nat _ 128, u64_id (by omega) (by omega)]
      exact e2
theorem first (a0 a1 a2 : Int) (h0 : (Lit.int .u64 a0).wf = true) (h1 : (Lit.int .u64 a1).wf = true) (h2 : (Lit.int .i64 a2).wf = true) : ∃ k, postroomlaw1_NumFirst.f k a0 a1 a2 = some true := by
  obtain ⟨ha0, ha1⟩ := wf_u64 h0
  obtain ⟨hb0, hb1⟩ := wf_u64 h1
  have hc := wf_i64 h2
  obtain ⟨a, rfl⟩ := Int.eq_ofNat_of_zero_le ha0
  obtain ⟨b, rfl⟩ := Int.eq_ofNat_of_zero_le hb0
  have ha : a < 18446744073709551616 := by omega
  have hb : b < 18446744073709551616 := by omega
  have la := enc_len10 ha
  have lb := enc_len10 hb
  have pa := enc_pos a
  have pb := enc_pos b
  obtain ⟨K, hK⟩ : ∃ K : Nat, 100 ≤ K := ⟨100, by omega⟩
  refine ⟨K + 1, ?_⟩
  unfold postroomlaw1_NumFirst.f
  rw [shown_f (by omega)]
  simp only [bsome]
  rw [if_pos trivial, put_f ha (by omega), put_f hb (by omega)]
  simp only [bsome]
  rw [show Int.tdiv ((a : Nat) : Int) 128 = ((a / 128 : Nat) : Int) from tdiv_nat _ 128, u64_id (by omega) (by omega)]
  obtain ⟨k', e1, e2⟩ := first_l0 a b a2 (enc a) (enc b) (fun h => by rw [h] at pb; simp at pb) (K + 1) a 1 ha (by omega) (by omega) (by omega)
  simp only [Int.natCast_one] at e2
  rw [e2]
  obtain ⟨k, rfl⟩ : ∃ m, k' = m + 1 := ⟨k' - 1, by omega⟩
  simp only [postroomlaw1_NumFirst.j1]
  obtain ⟨t, t1, t2⟩ := pick_f a2 (enc a).length hc pa (by omega)
  have hw : wrap64 (((enc a).length : Int) - 1) = (((enc a).length - 1 : Nat) : Int) := by rw [w64_id (by omega) (by omega)]; omega
  have hbt := bt_bs (enc a) ((enc a).length - 1) (by omega)
  have hlt := ((enc a)[(enc a).length - 1]'(by omega)).toNat_lt
  -- the last byte, with its high bit
  have hlast : bs ((enc a).take ((enc a).length - 1)) ++ strOfNums [Go.bits .or .u8 (bt (bs (enc a)) (((enc a).length - 1 : Nat) : Int)) 128] = bs ((enc a).take ((enc a).length - 1) ++ [u8 (((enc a)[(enc a).length - 1]'(by omega)).toNat % 128 + 128)]) := by
    rw [hbt, or128 _ (by omega), strOfNums_bs, bs_app]; rfl
  have hsz : (bs ((enc a).take ((enc a).length - 1))).size + (strOfNums [Go.bits .or .u8 (bt (bs (enc a)) (((enc a).length - 1 : Nat) : Int)) 128]).size ≤ 9223372036854775807 := by
    rw [bs_size, strOfNums_size, List.length_take]; simp; omega
  have hlen : ((enc a).take ((enc a).length - 1) ++ [u8 (((enc a)[(enc a).length - 1]'(by omega)).toNat % 128 + 128)]).length ≤ 140737488351232 := by
    rw [List.length_append, List.length_take]; simp; omega
  have hnone : dec 0 ((enc a).take ((enc a).length - 1) ++ [u8 (((enc a)[(enc a).length - 1]'(by omega)).toNat % 128 + 128)]) = none := by
    refine dec_high _ 0 fun c hc => ?_
    rcases List.mem_append.1 hc with hc | hc
    · exact enc_init 9 a (by omega) c hc
    · rw [List.mem_singleton.1 hc, u8_toNat (by omega)]; omega
  have hcut : num_Take.f k (bs ((enc a).take t)) = some (0, bs [], 2) := by rw [take_f (by rw [List.length_take]; omega) (by omega), takeP_none (dec_cut ha t2)]
  have hend : num_Take.f k (bs ((enc a).take ((enc a).length - 1) ++ [u8 (((enc a)[(enc a).length - 1]'(by omega)).toNat % 128 + 128)])) = some (0, bs [], 2) := by rw [take_f hlen (by omega), takeP_none hnone]
  have heq : (enc b).take (enc a).length = enc a → a = b := fun h => by
    have : enc a ++ (enc b).drop (enc a).length = enc b ++ [] := by rw [List.append_nil]; conv => lhs; lhs; rw [← h]
                                                                    exact List.take_append_drop _ _
    exact (enc_inj ha hb this).1
  rw [if_neg (by decide)]
  simp only [bs_size]
  by_cases hle : (enc a).length ≤ (enc b).length
  · rw [if_pos (by omega), if_pos (by omega), if_pos (by omega), t1]
    simp only [bsome]
    rw [if_pos (by omega), if_pos (by omega), Int.toNat_natCast, bs_take, hcut]
    simp only [bsome]
    rw [hw, if_pos (by omega), if_pos (by omega), if_pos (by omega), Int.toNat_natCast, bs_take, if_pos hsz, hlast, hend]
    simp only [bsome]
    rw [bs_take, bs_toList, bs_toList]
    have : ((((enc b).take (enc a).length == enc a) == ((a : Int) == (b : Int))) = true) := by
      by_cases hab : a = b
      · subst hab; simp
      · have h1 : ((enc b).take (enc a).length == enc a) = false := by rw [beq_eq_false_iff_ne]; exact fun h => hab (heq h)
        have h2 : ((a : Int) == (b : Int)) = false := by rw [beq_eq_false_iff_ne]; omega
        rw [h1, h2]; rfl
    rw [if_pos this, if_pos trivial]
    rfl
  · rw [if_neg (by omega), t1]
    simp only [bsome]
    rw [if_pos (by omega), if_pos (by omega), Int.toNat_natCast, bs_take, hcut]
    simp only [bsome]
    rw [hw, if_pos (by omega), if_pos (by omega), if_pos (by omega), Int.toNat_natCast, bs_take, if_pos hsz, hlast, hend]
    simp only [bsome]
    have h2 : ((a : Int) == (b : Int)) = false := by rw [beq_eq_false_iff_ne]; intro h; have : a = b := by omega
                                                     subst this; omega
    rw [h2, if_pos (by decide), if_pos trivial]
    rfl
end Go.Proofs.Ytipeojncbkdllaa.Num
