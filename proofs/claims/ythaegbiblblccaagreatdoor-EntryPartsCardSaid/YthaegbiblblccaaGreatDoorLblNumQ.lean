/- Texts of this seat, in one. Conditions: those that each theorem names. -/
import Derived.Test.YthaegbiblblccaaGreatDoorNumLib
import Derived.Test.YthaegbiblblccaaGreatDoorXEntP1
section
/- What the program's functions of chapter 1 come to, in the plain law's words. Conditions: enough rounds; texts no longer than any machine's. -/
namespace Go.Proofs.YthaegbiblblccaaGreatDoor.Num
open Go.RowKit Go.Proofs.YthaegbiblblccaaGreatDoorW.PrintWords Go.Proofs.YthaegbiblblccaaGreatDoorW.PrintMore Go.Proofs.YthaegbiblblccaaGreatDoor.XEnt

theorem put_l0 : ∀ (k n : Nat) (acc : List Int), (enc n).length ≤ k → acc.length + (enc n).length ≤ 1000 →
    num_Put.l0 k (n : Int) acc = some (bs (acc.map (fun x => UInt8.ofNat x.toNat) ++ enc n))
  | 0, n, acc, h, _ => by have := enc_pos n; omega
  | k + 1, n, acc, h, hl => by
    have hp := enc_pos n
    simp only [num_Put.l0]
    by_cases h1 : n < 128
    · rw [if_neg (by omega), if_pos (by omega), enc_small h1, strOfNums_bs, List.map_append, show ((n : Int) % 256) = (n : Int) by omega]
      rfl
    · rw [enc_big h1] at h hl ⊢
      rw [if_pos (by omega), if_pos (by omega), show ((n : Int) % 256) = ((n % 256 : Nat) : Int) by omega, or128 _ (by omega), show ((n : Int) / 128) = ((n / 128 : Nat) : Int) by omega]
      simp only [List.length_cons] at h hl
      rw [put_l0 k (n / 128) _ (by omega) (by simp only [List.length_append, List.length_cons, List.length_nil]; omega), List.map_append, List.append_assoc, show n % 256 % 128 = n % 128 by omega]
      rfl
theorem put_f {k n : Nat} (hn : n < 18446744073709551616) (hk : 10 ≤ k) : num_Put.f k (n : Int) = some (bs (enc n)) := by
  have := enc_len10 hn
  unfold num_Put.f
  rw [put_l0 k n [] (by omega) (by simp only [List.length_nil]; omega)]
  rfl
theorem putInt_f {k : Nat} {m : Int} (hm : -9223372036854775808 ≤ m ∧ m < 9223372036854775808) (hk : 10 ≤ k) : num_PutInt.f k m = some (bs (enc (zig m))) := by
  have e : Go.bits .xor .u64 (IntKind.u64.wrap ((IntKind.u64.wrap m) * 2)) (IntKind.u64.wrap (m / 9223372036854775808)) = ((zig m : Nat) : Int) := by
    by_cases h : 0 ≤ m
    · rw [show m / 9223372036854775808 = 0 by omega, show IntKind.u64.wrap 0 = 0 by rw [u64_wrap]; rfl, u64_id h (by omega), u64_id (by omega) (by omega), show m * 2 = ((zig m : Nat) : Int) by unfold zig; rw [if_pos h]; omega]
      exact xor0 .u64 _ (.inl ⟨rfl, by have := zig_lt hm; omega⟩)
    · have hz : zig m = (-2 * m - 1).toNat := by unfold zig; rw [if_neg h]
      rw [show m / 9223372036854775808 = -1 by omega, show IntKind.u64.wrap (-1) = 18446744073709551615 by rw [u64_wrap]; rfl, u64_wrap m, u64_wrap, show m % 18446744073709551616 * 2 % 18446744073709551616 = ((2 * m + 18446744073709551616).toNat : Int) by omega, xor_u64 _ (by omega), hz]
      omega
  unfold num_PutInt.f
  rw [e, put_f (zig_lt hm) hk]
  rfl
theorem putText_f {k : Nat} {l : List UInt8} (hl : l.length ≤ 140737488351232) (hk : 10 ≤ k) : num_PutText.f k (bs l) = some (bs (encT l)) := by
  unfold num_PutText.f
  have := enc_len10 (n := l.length) (by omega)
  rw [bs_size, u64_id (by omega) (by omega), put_f (by omega) hk]
  simp only [bsome]
  rw [bs_size, if_pos (by omega), bs_app]
  rfl
end Go.Proofs.YthaegbiblblccaaGreatDoor.Num
end
section
/- Another name for a text of this seat. -/
end
