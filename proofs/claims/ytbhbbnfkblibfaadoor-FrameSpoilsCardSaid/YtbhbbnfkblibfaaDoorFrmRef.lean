/- The document's frames (postroomref2, postroomref6) come to the plain law. Conditions: those that each theorem names. -/
import Derived.Test.YtbhbbnfkblibfaaDoorFrmLaw
import Derived.Test.YtbhbbnfkblibfaaDoorFrmNumR
import Derived.Test.YtbhbbnfkblibfaaDoorXFrmx5
import Derived.Test.YtbhbbnfkblibfaaDoorXFrmx7
namespace Go.Proofs.YtbhbbnfkblibfaaDoor.Frm
open Go.RowKit Go.Proofs.YtbhbbnfkblibfaaDoorW.PrintWords Go.Proofs.YtbhbbnfkblibfaaDoorW.PrintMore Go.Proofs.YtbhbbnfkblibfaaDoor.XFrm Go.Proofs.YtbhbbnfkblibfaaDoor.Num Go.Proofs.YtbhbbnfkblibfaaDoor.Crc
set_option linter.unusedVariables false
set_option linter.unusedSimpArgs false

def bitk : Nat → Nat → Nat
  | 0, r => r
  | j + 1, r => bitk j (bit1 r)
theorem bitk8 (r : Nat) : bitk 8 r = bits8 r := rfl
theorem add_l1 (s : ByteArray) (i : Int) : ∀ (d k r : Nat), d ≤ 8 → r < 4294967296 → postroomref2_Add.l1 (k + d + 1) s (r : Int) i ((8 - d : Nat) : Int) = postroomref2_Add.l0 k s ((bitk d r : Nat) : Int) (wrap64 (i + 1))
  | 0, k, r, _, _ => by
    rw [Nat.add_zero, postroomref2_Add.l1, if_neg (by omega)]; rfl
  | d + 1, k, r, hd, hr => by
    have e1 : Int.tmod (r : Int) 2 = ((r % 2 : Nat) : Int) := rfl
    have e2 : Int.tdiv (r : Int) 2 % 4294967296 = ((r / 2 : Nat) : Int) := by
      have : Int.tdiv (r : Int) 2 = ((r / 2 : Nat) : Int) := rfl
      rw [this]; omega
    have e3 : wrap64 (((8 - (d + 1) : Nat) : Int) + 1) = ((8 - d : Nat) : Int) := by rw [w64_id (by omega) (by omega)]; omega
    rw [show k + (d + 1) + 1 = (k + d + 1) + 1 by omega, postroomref2_Add.l1, if_pos (by omega), e1, e2, e3]
    have hb : bit1 r = if r % 2 = 1 then (r / 2) ^^^ 2197175160 else r / 2 := by
      unfold bit1; split
      · rfl
      · rw [Nat.xor_zero]
    by_cases h : r % 2 = 1
    · rw [if_pos (by omega)]
      have hx : bits .xor .u32 ((r / 2 : Nat) : Int) 2197175160 = ((bit1 r : Nat) : Int) := by
        rw [hb, if_pos h]; exact bits_xor_u32 (r / 2) 2197175160 (by omega) (by decide)
      rw [hx, add_l1 s i d k _ (by omega) (bit1_lt hr)]
      rfl
    · rw [if_neg (by omega)]
      have hx : bit1 r = r / 2 := by rw [hb, if_neg h]
      rw [← hx, add_l1 s i d k _ (by omega) (bit1_lt hr)]
      rfl
theorem add_l0 (l : List UInt8) (hl : l.length ≤ 140737488351232) : ∀ (d k i : Nat), i + d = l.length → ∀ r : Nat, r < 4294967296 → 10 * d + 1 ≤ k → postroomref2_Add.l0 k (bs l) (r : Int) (i : Int) = some (((crcL r (l.drop i)) ^^^ 4294967295 : Nat) : Int)
  | 0, k, i, hi, r, hr, hk => by
    obtain ⟨k, rfl⟩ : ∃ m, k = m + 1 := ⟨k - 1, by omega⟩
    have hx : bits .xor .u32 ((r : Nat) : Int) 4294967295 = ((r ^^^ 4294967295 : Nat) : Int) := bits_xor_u32 r 4294967295 hr (by decide)
    rw [postroomref2_Add.l0, bs_size, if_neg (by omega), hx, List.drop_of_length_le (by omega)]
    rfl
  | d + 1, k, i, hi, r, hr, hk => by
    obtain ⟨k, rfl⟩ : ∃ m, k = m + 8 + 1 + 1 := ⟨k - 10, by omega⟩
    have hlt : i < l.length := by omega
    have hx : bits .xor .u32 ((r : Nat) : Int) (bt (bs l) (i : Int) % 4294967296) = ((r ^^^ l[i].toNat : Nat) : Int) := by
      have hb := byte_lt l[i]
      rw [bt_bs l i hlt, show ((l[i].toNat : Nat) : Int) % 4294967296 = ((l[i].toNat : Nat) : Int) by omega]
      exact bits_xor_u32 r _ hr (by omega)
    have hw : wrap64 ((i : Int) + 1) = ((i + 1 : Nat) : Int) := by rw [w64_id (by omega) (by omega)]; omega
    have hb := byte_lt l[i]
    have hlt2 : r ^^^ l[i].toNat < 4294967296 := xor_lt hr (by omega)
    have h8 := add_l1 (bs l) (i : Int) 8 k (r ^^^ l[i].toNat) (by omega) hlt2
    have e0 : ((8 - 8 : Nat) : Int) = 0 := rfl
    rw [e0] at h8
    rw [postroomref2_Add.l0, bs_size, if_pos (by omega), if_pos (by omega), hx, h8, hw, bitk8, ← stepB_bits, add_l0 l hl d k (i + 1) (by omega) _ (stepB_lt hr _) (by omega)]
    rw [List.drop_eq_getElem_cons hlt]
    rfl
theorem rsum_f {k : Nat} {l : List UInt8} (hl : l.length ≤ 140737488351232) (hk : 10 * l.length + 1 ≤ k) : postroomref2_Sum.f k (bs l) = some ((crcS l : Nat) : Int) := by
  unfold postroomref2_Sum.f postroomref2_Add.f
  have hx : bits .xor .u32 0 4294967295 = ((4294967295 : Nat) : Int) := by decide
  rw [hx, show (0 : Int) = ((0 : Nat) : Int) from rfl, add_l0 l hl l.length k 0 (by omega) _ (by decide) hk, bsome, List.drop_zero]
  unfold crcS
  rw [Nat.xor_comm]
theorem rfour (n : Nat) (hn : n < 4294967296) : strOfNums ([(Int.tmod (n : Int) 256) % 256, ((Int.tdiv (n : Int) 256) % 4294967296) % 256, ((Int.tdiv (n : Int) 65536) % 4294967296) % 256, ((Int.tdiv (n : Int) 16777216) % 4294967296) % 256] : List Int) = bs (four n) := by
  have e0 : Int.tmod (n : Int) 256 = ((n % 256 : Nat) : Int) := rfl
  have e1 : Int.tdiv (n : Int) 256 = ((n / 256 : Nat) : Int) := rfl
  have e2 : Int.tdiv (n : Int) 65536 = ((n / 65536 : Nat) : Int) := rfl
  have e3 : Int.tdiv (n : Int) 16777216 = ((n / 16777216 : Nat) : Int) := rfl
  rw [e0, e1, e2, e3, strOfNums_bs]
  have u : ∀ m : Nat, UInt8.ofNat (m % 256) = UInt8.ofNat m := by intro m; apply UInt8.toNat_inj.1; simp
  have t0 : (((n % 256 : Nat) : Int) % 256).toNat = n % 256 := by omega
  have t1 : ((((n / 256 : Nat) : Int) % 4294967296) % 256).toNat = (n / 256) % 256 := by omega
  have t2 : ((((n / 65536 : Nat) : Int) % 4294967296) % 256).toNat = (n / 65536) % 256 := by omega
  have t3 : ((((n / 16777216 : Nat) : Int) % 4294967296) % 256).toNat = (n / 16777216) % 256 := by omega
  simp only [List.map_cons, List.map_nil]
  rw [t0, t1, t2, t3, u, u, u, u]
  rfl
theorem rfput_f {k n : Nat} {b : List UInt8} (hn : n < 18446744073709551616) (hb : b.length ≤ 140737488351232) (hk : 20200 ≤ k) : postroomref6_Put.f k (n : Int) (bs b) = some (putF n b) := by
  have h10 := enc_len10 hn
  unfold postroomref6_Put.f putF
  rw [bs_size]
  by_cases h : 2000 < b.length
  · rw [if_pos (by omega), if_pos h]; rfl
  · have h11 := enc_len10 (n := b.length) (by omega)
    rw [if_neg (by omega), if_neg h, rput_f hn (by omega), bsome, if_pos (by rw [bs_size]; omega), bs_app, rsum_f (by rw [List.length_append]; omega) (by rw [List.length_append]; omega), bsome, bsome, rfour _ (crcS_lt _)]
    rw [u64_id (by omega) (by omega), rput_f (by omega) (by omega), bsome, bsome, if_pos (by rw [bs_size, bs_size]; omega), bs_app]
    rw [if_pos (by rw [bs_size, bs_size, List.length_append, four_len]; omega), bs_app, if_pos (by simp only [bs_size, List.length_append, four_len]; omega), bs_app]
    unfold fr sumB
    simp only [List.append_assoc]
theorem rfirst_f {k : Nat} {l : List UInt8} (hl : l.length ≤ 140737488351232) (hk : 20300 ≤ k) : postroomref6_First.f k (bs l) = some (firstP l) := by
  obtain ⟨k, rfl⟩ : ∃ m, k = m + 2 := ⟨k - 2, by omega⟩
  unfold postroomref6_First.f firstP fst
  rw [rtake_f hl (by omega), bsome]
  unfold takeP
  cases h1 : dec 0 l with
  | none => simp only; rw [if_neg (by decide), postroomref6_First.j0, if_pos rfl]; rfl
  | some x =>
    obtain ⟨m, r⟩ := x
    obtain ⟨e1, hm⟩ := dec_some h1
    have hrl : r.length ≤ l.length := by have := congrArg List.length e1; rw [List.length_append] at this; omega
    simp only
    rw [if_pos trivial, postroomref6_First.j0]
    by_cases hm2 : m ≤ 2000
    · rw [if_neg (by rw [decide_eq_true_eq]; omega), if_pos hm2, rtake_f (by omega) (by omega), bsome]
      unfold takeP
      cases h2 : dec 0 r with
      | none => simp only; rw [if_neg (by decide), postroomref6_First.j1, if_pos rfl]; rfl
      | some y =>
        obtain ⟨n, q⟩ := y
        obtain ⟨e2, hn⟩ := dec_some h2
        have hql : q.length ≤ r.length := by have := congrArg List.length e2; rw [List.length_append] at this; omega
        have el : l.length = (enc m).length + (enc n).length + q.length := by rw [e1, e2]; simp only [List.length_append]; omega
        simp only
        rw [if_pos trivial, postroomref6_First.j1, bs_size, w64_id (x := (m : Int)) (by omega) (by omega), w64_id (x := (m : Int) + 4) (by omega) (by omega), u64_id (x := 4 + (m : Int)) (by omega) (by omega)]
        by_cases hq : q.length < 4 + m
        · rw [if_pos (by rw [decide_eq_true_eq]; omega), if_pos hq]; rfl
        · have hbl : ((q.drop 4).take m).length = m := by rw [List.length_take, List.length_drop]; omega
          have ex : (bs q).extract 4 (4 + (m : Int)).toNat = bs ((q.drop 4).take m) := by
            rw [bs_ext, show (4 + (m : Int)).toNat = 4 + m by omega, List.drop_take, show 4 + m - 4 = m by omega]
          have hp : putF n ((q.drop 4).take m) = (bs (fr n ((q.drop 4).take m)), 0) := by unfold putF; rw [if_neg (by rw [hbl]; omega)]
          have hfl : (fr n ((q.drop 4).take m)).length = (enc m).length + (enc n).length + 4 + m := by rw [fr_len, hbl]
          rw [if_neg (by rw [decide_eq_true_eq]; omega), if_neg hq, if_pos (by omega), if_pos (by omega), ex, rfput_f hn (by rw [hbl]; omega) (by omega), bsome, hp]
          simp only
          rw [bs_size, bs_size, if_pos (by omega), if_pos (by omega), bs_take, bs_toList, bs_toList]
          have hiff : l.take (fr n ((q.drop 4).take m)).length = fr n ((q.drop 4).take m) ↔ q.take 4 = sumB n ((q.drop 4).take m) := by
            have hq2 : q = q.take 4 ++ ((q.drop 4).take m ++ q.drop (4 + m)) := by
              rw [← List.drop_drop, List.take_append_drop, List.take_append_drop]
            have hl2 : l = (enc m ++ (enc n ++ (q.take 4 ++ (q.drop 4).take m))) ++ q.drop (4 + m) := by
              rw [e1, e2]
              simp only [List.append_assoc]
              rw [← hq2]
            have ht : l.take (fr n ((q.drop 4).take m)).length = enc m ++ (enc n ++ (q.take 4 ++ (q.drop 4).take m)) := by
              conv => lhs; rw [hl2]
              refine List.take_left' ?_
              rw [hfl]; simp only [List.length_append, List.length_take, hbl]; omega
            rw [ht]
            unfold fr
            rw [hbl]
            constructor
            · intro h
              have h2 := List.append_cancel_left (List.append_cancel_left h)
              exact List.append_cancel_right h2
            · intro h; rw [h]
          by_cases hs : q.take 4 = sumB n ((q.drop 4).take m)
          · rw [if_pos (hiff.2 hs), if_pos hs]
          · rw [if_neg (fun h => hs (hiff.1 h)), if_neg hs]; rfl
    · rw [if_pos (by rw [decide_eq_true_eq]; omega), if_neg hm2]; rfl
end Go.Proofs.YtbhbbnfkblibfaaDoor.Frm
