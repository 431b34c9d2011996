/- The given program's frame.Put, First, Size, shown come to the plain law. Conditions: those that each theorem names. -/
import Derived.Test.YtbhbbnfkblibfaaDoorFrmLaw
import Derived.Test.YtbhbbnfkblibfaaDoorFrmNumA
import Derived.Test.YtbhbbnfkblibfaaDoorGFrameSum
import Derived.Test.YtbhbbnfkblibfaaDoorXFrmx3
import Derived.Test.YtbhbbnfkblibfaaDoorXFrmx4
namespace Go.Proofs.YtbhbbnfkblibfaaDoor.Frm
open Go.RowKit Go.Proofs.YtbhbbnfkblibfaaDoorW.PrintWords Go.Proofs.YtbhbbnfkblibfaaDoorW.PrintMore Go.Proofs.YtbhbbnfkblibfaaDoor.XFrm Go.Proofs.YtbhbbnfkblibfaaDoor.Num Go.Proofs.YtbhbbnfkblibfaaDoor.Crc
set_option linter.unusedVariables false
set_option linter.unusedSimpArgs false

theorem sum_f {k n : Nat} {b : List UInt8} (hn : n < 18446744073709551616) (hb : b.length ≤ 140737488351232) (hk : 10 ≤ k) : frame_sum.f k (n : Int) (bs b) = some (bs (sumB n b)) := by
  have h10 := enc_len10 hn
  unfold frame_sum.f
  rw [put_f hn hk, bsome, if_pos (by rw [bs_size, bs_size]; omega), bs_app, ls_bs]
  rfl
theorem fput_f {k n : Nat} {b : List UInt8} (hn : n < 18446744073709551616) (hb : b.length ≤ 140737488351232) (hk : 10 ≤ k) : frame_Put.f k (n : Int) (bs b) = some (putF n b) := by
  have h10 := enc_len10 hn
  unfold frame_Put.f putF
  rw [bs_size]
  by_cases h : 2000 < b.length
  · rw [if_pos (by omega), if_pos h]; rfl
  · have h11 := enc_len10 (n := b.length) (by omega)
    rw [if_neg (by omega), if_neg h, u64_id (by omega) (by omega), put_f (by omega) hk, bsome, put_f hn hk, bsome, if_pos (by rw [bs_size, bs_size]; omega), sum_f hn hb hk, bsome, bs_app]
    rw [if_pos (by rw [bs_size, bs_size, List.length_append, sumB_len]; omega), bs_app, if_pos (by simp only [bs_size, List.length_append, sumB_len]; omega), bs_app]
    unfold fr
    simp only [List.append_assoc]
theorem fsize_f {k n : Nat} {b : List UInt8} (hn : n < 18446744073709551616) (hb : b.length ≤ 140737488351232) (hk : 10 ≤ k) : frame_Size.f k (n : Int) (bs b) = some ((putF n b).1.size : Int) := by
  unfold frame_Size.f; rw [fput_f hn hb hk, bsome]
theorem first_f {k : Nat} {l : List UInt8} (hl : l.length ≤ 140737488351232) (hk : 50 ≤ k) : frame_First.f k (bs l) = some (firstP l) := by
  obtain ⟨k, rfl⟩ : ∃ m, k = m + 2 := ⟨k - 2, by omega⟩
  unfold frame_First.f firstP fst
  rw [take_f hl (by omega), bsome]
  unfold takeP
  cases h1 : dec 0 l with
  | none => simp only; rw [if_neg (by decide), frame_First.j0, if_pos rfl]; rfl
  | some x =>
    obtain ⟨m, r⟩ := x
    obtain ⟨e1, hm⟩ := dec_some h1
    have hrl : r.length ≤ l.length := by have := congrArg List.length e1; rw [List.length_append] at this; omega
    simp only
    rw [if_pos trivial, frame_First.j0]
    by_cases hm2 : m ≤ 2000
    · rw [if_neg (by rw [decide_eq_true_eq]; omega), if_pos hm2, take_f (by omega) (by omega), bsome]
      unfold takeP
      cases h2 : dec 0 r with
      | none => simp only; rw [if_neg (by decide), frame_First.j1, if_pos rfl]; rfl
      | some y =>
        obtain ⟨n, q⟩ := y
        obtain ⟨e2, hn⟩ := dec_some h2
        have hql : q.length ≤ r.length := by have := congrArg List.length e2; rw [List.length_append] at this; omega
        have el : l.length = (enc m).length + (enc n).length + q.length := by rw [e1, e2]; simp only [List.length_append]; omega
        simp only
        rw [if_pos trivial, frame_First.j1, bs_size, u64_id (x := (q.length : Int)) (by omega) (by omega), u64_id (x := 4 + (m : Int)) (by omega) (by omega)]
        by_cases hq : q.length < 4 + m
        · rw [if_pos (by rw [decide_eq_true_eq]; omega), if_pos hq]; rfl
        · have hbl : ((q.drop 4).take m).length = m := by rw [List.length_take, List.length_drop]; omega
          have ex : (bs q).extract 4 (4 + (m : Int)).toNat = bs ((q.drop 4).take m) := by
            rw [bs_ext, show (4 + (m : Int)).toNat = 4 + m by omega, List.drop_take, show 4 + m - 4 = m by omega]
          rw [if_neg (by rw [decide_eq_true_eq]; omega), if_neg hq, if_pos (by omega), if_pos (by omega), if_pos (by decide), if_pos (by omega), ex, sum_f hn (by rw [hbl]; omega) (by omega), bsome, bs_take, bs_toList, bs_toList]
          by_cases hs : q.take 4 = sumB n ((q.drop 4).take m)
          · rw [if_pos hs, if_pos hs]
            simp only
            rw [fr_len, hbl, bs_size, w64_id (x := (l.length : Int) - (q.length : Int)) (by omega) (by omega), w64_id (x := (m : Int)) (by omega) (by omega)]
            rw [w64_id (x := (l.length : Int) - (q.length : Int) + 4) (by omega) (by omega), w64_id (x := (l.length : Int) - (q.length : Int) + 4 + (m : Int)) (by omega) (by omega)]
            congr 3
            congr 1
            omega
          · rw [if_neg hs, if_neg hs]; rfl
    · rw [if_pos (by rw [decide_eq_true_eq]; omega), if_neg hm2]; rfl
theorem shown_sum : sumB 5 [97, 98] = four (crcS [5, 97, 98]) := by decide +kernel
theorem shown_f {k : Nat} (hk : 50 ≤ k) : postroomlaw6_shown.f k = some true := by
  unfold postroomlaw6_shown.f
  have e5 : ((5 : Nat) : Int) = 5 := rfl
  have hp := fput_f (k := k) (n := 5) (b := [97, 98]) (by decide) (by decide) (by omega)
  have hb : putF 5 [97, 98] = (bs (fr 5 [97, 98]), 0) := by unfold putF; rw [if_neg (by decide)]
  rw [hb, e5] at hp
  have hx : (⟨#[97, 98]⟩ : ByteArray) = bs [97, 98] := rfl
  have hf := first_f (k := k) (l := fr 5 [97, 98]) (by decide +kernel) hk
  have hfp := firstP_put (n := 5) (b := [97, 98]) [] (by decide) (by decide)
  rw [List.append_nil] at hfp
  rw [hx, hp, bsome, hf, bsome, hfp]
  have hlen : (fr 5 [97, 98]).length = 8 := by decide +kernel
  simp only [bs_size, hlen]
  rw [if_pos trivial, if_pos trivial, if_pos (by decide), if_pos (by decide), if_pos (by decide), bs_take, bs_toList, if_pos (by decide +kernel), if_pos (by decide), bs_ext, bs_toList, if_pos (by decide +kernel), if_pos e5, bs_toList, if_pos rfl]
  rfl
end Go.Proofs.YtbhbbnfkblibfaaDoor.Frm
