/- What the program's functions of chapter 1 come to, in the plain law's words. Conditions: enough rounds; texts no longer than any machine's. -/
import Derived.Test.YtmbigoeldobaiaaDoorNumLib
import Derived.Test.YtmbigoeldobaiaaDoorXMrkP1
namespace Go.Proofs.YtmbigoeldobaiaaDoor.Num
open Go.RowKit Go.Proofs.YtmbigoeldobaiaaDoorW.PrintWords Go.Proofs.YtmbigoeldobaiaaDoorW.PrintMore Go.Proofs.YtmbigoeldobaiaaDoor.XMrk

theorem put_l0 : ∀ (k n : Nat) (acc : List Int), (enc n).length ≤ k → acc.length + (enc n).length ≤ 1000 →
  num_Put.l0 k (n : Int) acc = some (bs (acc.map (fun x => UInt8.ofNat x.toNat) ++ enc n))
 | 0, n, acc, h, _ => by have := enc_pos n; omega
 | k + 1, n, acc, h, hl => by
  have hp := enc_pos n
  simp only [num_Put.l0]
  by_cases h1 : n < 128
  ·rw [if_neg (by omega), if_pos (by omega), enc_small h1, strOfNums_bs, List.map_append, show ((n : Int) % 256) = (n : Int) by omega]
   rfl
  ·rw [enc_big h1] at h hl ⊢
   rw [if_pos (by omega), if_pos (by omega), show ((n : Int) % 256) = ((n % 256 : Nat) : Int) by omega, or128 _ (by omega), show ((n : Int) / 128) = ((n / 128 : Nat) : Int) by omega]
   simp only [List.length_cons] at h hl
   rw [put_l0 k (n / 128) _ (by omega) (by simp only [List.length_append, List.length_cons, List.length_nil]; omega), List.map_append, List.append_assoc, show n % 256 % 128 = n % 128 by omega]
   rfl
theorem put_f {k n : Nat} (hn : n < 18446744073709551616) (hk : 10 ≤ k) : num_Put.f k (n : Int) = some (bs (enc n)) := by
 have := enc_len10 hn
 unfold num_Put.f
 rw [put_l0 k n [] (by omega) (by simp only [List.length_nil]; omega)]
 rfl
theorem putText_f {k : Nat} {l : List UInt8} (hl : l.length ≤ 140737488351232) (hk : 10 ≤ k) : num_PutText.f k (bs l) = some (bs (encT l)) := by
 unfold num_PutText.f
 have := enc_len10 (n := l.length) (by omega)
 rw [bs_size, u64_id (by omega) (by omega), put_f (by omega) hk]
 simp only [bsome]
 rw [bs_size, if_pos (by omega), bs_app]
 rfl
end Go.Proofs.YtmbigoeldobaiaaDoor.Num
