/- What the program's functions of chapter 1 come to, in the plain law's words. Conditions: enough rounds; texts no longer than any machine's. -/
import Derived.Test.YthaegbiblblccaaGreatDoorNumLib
import Derived.Test.YthaegbiblblccaaGreatDoorSmpNumR
import Derived.Test.YthaegbiblblccaaGreatDoorXEntP3
namespace Go.Proofs.YthaegbiblblccaaGreatDoor.Num
open Go.RowKit Go.Proofs.YthaegbiblblccaaGreatDoorW.PrintWords Go.Proofs.YthaegbiblblccaaGreatDoorW.PrintMore Go.Proofs.YthaegbiblblccaaGreatDoor.XEnt

theorem val_lt (l : List UInt8) (a : Nat) (ha : a < 18446744073709551616) : val l a < 18446744073709551616 := by
  cases l with
  | nil => exact ha
  | cons c l => simp only [val]; exact Nat.mod_lt _ (by decide)
theorem val_one (c : UInt8) (acc : Nat) : val [c] acc = (128 * acc + c.toNat % 128) % 18446744073709551616 := by simp only [val]
theorem rtake_sum (c : UInt8) (acc : Nat) : ((128 * (acc : Int)) % 18446744073709551616 + ((c.toNat % 128 : Nat) : Int)) % 18446744073709551616 = ((val [c] acc : Nat) : Int) := by rw [val_one]; omega
theorem rtake_l1 (l : List UInt8) (hl : l.length ≤ 140737488351232) (m : Nat) (hm : m < l.length) : ∀ (j k acc : Nat), j ≤ l.length → acc < 18446744073709551616 → j + 12 ≤ k →
    postroomref1_Take.l1 k (bs l) (m : Int) (acc : Int) ((j : Int) - 1) = some (if enc (val (l.take j) acc) = l.take (m + 1) then ((val (l.take j) acc : Int), bs (l.drop (m + 1)), 0) else (0, bs [], 2))
  | 0, k, acc, _, ha, hk => by
    obtain ⟨k, rfl⟩ : ∃ m, k = m + 1 := ⟨k - 1, by omega⟩
    have w : wrap64 ((m : Int) + 1) = ((m + 1 : Nat) : Int) := by rw [w64_id (by omega) (by omega)]; omega
    simp only [postroomref1_Take.l1]
    rw [if_neg (by omega), rput_f ha (by omega)]
    rw [bsome, List.take_zero, show val [] acc = acc from rfl, w, if_pos (by omega), if_pos (by rw [bs_size]; omega), Int.toNat_natCast, bs_take, bs_toList, bs_toList, bs_drop]
    by_cases h : enc acc = l.take (m + 1)
    · rw [if_pos h, if_pos h]
    · rw [if_neg h, if_neg h]; rfl
  | j + 1, k, acc, hj, ha, hk => by
    obtain ⟨k, rfl⟩ : ∃ m, k = m + 1 := ⟨k - 1, by omega⟩
    obtain ⟨c, hcc⟩ : ∃ c, l[j]'(by omega) = c := ⟨_, rfl⟩
    have hc := c.toNat_lt
    have hb : bt (bs l) (j : Int) = (c.toNat : Int) := by rw [bt_bs l j (by omega), hcc]
    have ht : l.take (j + 1) = l.take j ++ [c] := by rw [← hcc]; exact (List.take_append_getElem (by omega)).symm
    have hm1 : Int.tmod (c.toNat : Int) 128 = ((c.toNat % 128 : Nat) : Int) := tmod_nat _ 128
    have hs := rtake_sum c acc
    have ih := rtake_l1 l hl m hm j k (val [c] acc) (by omega) (val_lt _ _ ha) (by omega)
    simp only [postroomref1_Take.l1]
    rw [show (((j + 1 : Nat) : Int) - 1) = (j : Int) by omega, if_pos (by omega), if_pos (by omega), if_pos (by rw [bs_size]; omega), hb, hm1,
      w64_id (by omega) (by omega), u64_wrap (128 * (acc : Int)), u64_id (x := ((c.toNat % 128 : Nat) : Int)) (by omega) (by omega), u64_wrap, hs, ih, ht, val_app]
theorem rtake_l0 (l : List UInt8) (hl : l.length ≤ 140737488351232) : ∀ (d k i : Nat), i + d = 10 → i ≤ l.length → d + 1 ≤ k →
    ∃ k', k ≤ k' + d + 1 ∧ postroomref1_Take.l0 k (bs l) (i : Int) = postroomref1_Take.j1 k' (bs l) ((i + lead (l.drop i) d : Nat) : Int)
  | d, k, i, hi, hle, hk => by
    obtain ⟨k, rfl⟩ : ∃ m, k = m + 1 := ⟨k - 1, by omega⟩
    simp only [postroomref1_Take.l0]
    by_cases h : i < l.length
    · rw [if_pos (by rw [bs_size]; omega)]
      match d, hi, hk with
      | 0, hi, _ => exact ⟨k, by omega, by rw [if_neg (by omega), show lead (l.drop i) 0 = 0 by simp only [lead], Nat.add_zero]⟩
      | d + 1, hi, hk =>
        have hd : l.drop i = l[i] :: l.drop (i + 1) := List.drop_eq_getElem_cons h
        rw [if_pos (by omega), if_pos (by omega), bt_bs l i h, hd]
        simp only [lead]
        by_cases hc : 128 ≤ (l[i]).toNat
        · rw [if_pos (by omega), if_pos hc, show wrap64 ((i : Int) + 1) = ((i + 1 : Nat) : Int) by rw [w64_id (by omega) (by omega)]; omega]
          obtain ⟨k', h1, h2⟩ := rtake_l0 l hl d k (i + 1) (by omega) (by omega) (by omega)
          exact ⟨k', by omega, by rw [h2, show i + 1 + lead (l.drop (i + 1)) d = i + (lead (l.drop (i + 1)) d + 1) by omega]⟩
        · rw [if_neg (by omega), if_neg hc]
          exact ⟨k, by omega, rfl⟩
    · refine ⟨k, by omega, ?_⟩
      rw [if_neg (by rw [bs_size]; omega), List.drop_eq_nil_of_le (by omega)]
      cases d <;> rfl
theorem rtake_f {k : Nat} {l : List UInt8} (hl : l.length ≤ 140737488351232) (hk : 60 ≤ k) : postroomref1_Take.f k (bs l) = some (takeP l) := by
  unfold postroomref1_Take.f
  obtain ⟨k', h1, h2⟩ := rtake_l0 l hl 10 k 0 rfl (by omega) (by omega)
  have hle := lead_le 10 l
  simp only [Int.natCast_zero, List.drop_zero, Nat.zero_add] at h2
  rw [h2, doc_take]
  obtain ⟨k', rfl⟩ : ∃ m, k' = m + 2 := ⟨k' - 2, by omega⟩
  simp only [postroomref1_Take.j1, postroomref1_Take.j2]
  rw [bs_size]
  by_cases h : l.length ≤ lead l 10 ∨ 10 ≤ lead l 10
  · rw [if_pos h]
    by_cases h3 : l.length ≤ lead l 10
    · rw [if_pos (by omega), if_pos trivial]; rfl
    · rw [if_neg (by omega), if_pos (by rw [decide_eq_true_eq]; omega)]; rfl
  · have := rtake_l1 l hl (lead l 10) (by omega) (lead l 10 + 1) k' 0 (by omega) (by omega) (by omega)
    rw [show (((lead l 10 + 1 : Nat) : Int) - 1) = ((lead l 10 : Nat) : Int) by omega] at this
    rw [if_neg h, if_neg (by omega), if_neg (by rw [decide_eq_true_eq]; omega)]
    exact this
theorem rtakeInt_f {k : Nat} {l : List UInt8} (hl : l.length ≤ 140737488351232) (hk : 60 ≤ k) : postroomref1_TakeInt.f k (bs l) = some (takeIP l) := by
  unfold postroomref1_TakeInt.f takeIP
  rw [rtake_f hl hk]
  unfold takeP
  rcases hd : dec 0 l with _ | ⟨n, r⟩
  · rfl
  · have hn := (dec_some hd).2
    simp only [bsome]
    rw [if_pos trivial, show Int.tmod (n : Int) 2 = ((n % 2 : Nat) : Int) from tmod_nat n 2, show Int.tdiv (n : Int) 2 = ((n / 2 : Nat) : Int) from tdiv_nat n 2, u64_id (by omega) (by omega), w64_id (x := ((n / 2 : Nat) : Int)) (by omega) (by omega), w64_id (x := -((n / 2 : Nat) : Int)) (by omega) (by omega), w64_id (by omega) (by omega)]
    unfold zag
    by_cases h : n % 2 = 0
    · rw [if_pos (by omega), if_pos h]
    · rw [if_neg (by omega), if_neg h]
theorem rtakeText_f {k : Nat} {l : List UInt8} {most : Int} (hm : -9223372036854775808 ≤ most ∧ most < 9223372036854775808) (hl : l.length ≤ 140737488351232) (hk : 60 ≤ k) : postroomref1_TakeText.f k (bs l) most = some (takeTP l most) := by
  unfold postroomref1_TakeText.f takeTP
  have hx := mx0 hm
  rw [rtake_f hl hk]
  unfold takeP
  rcases hd : dec 0 l with _ | ⟨n, r⟩
  · rfl
  · obtain ⟨e, hn⟩ := dec_some hd
    have hr : r.length ≤ l.length := by rw [e, List.length_append]; omega
    simp only [bsome]
    rw [if_pos trivial, u64_id hx.1 (by omega), bs_size, u64_id (by omega) (by omega)]
    by_cases h1 : (n : Int) > mx most 0
    · rw [if_pos h1, if_pos h1]; rfl
    · rw [if_neg h1, if_neg h1]
      by_cases h2 : n > r.length
      · rw [if_pos (by omega), if_pos h2]; rfl
      · rw [if_neg (by omega), if_neg h2, if_pos (by omega), if_pos (by omega), Int.toNat_natCast, bs_take, ← bs_size r, bs_drop]
end Go.Proofs.YthaegbiblblccaaGreatDoor.Num
