/- What the program's functions of chapter 1 come to, in the plain law's words. Conditions: enough rounds; texts no longer than any machine's. -/
import Derived.Test.YthaegbiblblccaaGreatDoorNumLib
import Derived.Test.YthaegbiblblccaaGreatDoorSmpNumB
import Derived.Test.YthaegbiblblccaaGreatDoorXEntP1
namespace Go.Proofs.YthaegbiblblccaaGreatDoor.Num
open Go.RowKit Go.Proofs.YthaegbiblblccaaGreatDoorW.PrintWords Go.Proofs.YthaegbiblblccaaGreatDoorW.PrintMore Go.Proofs.YthaegbiblblccaaGreatDoor.XEnt

theorem rput_l0 : ∀ (k n : Nat) (acc : List Int), n < 18446744073709551616 → (enc n).length ≤ k → acc.length + (enc n).length ≤ 1000 →
    postroomref1_Put.l0 k (n : Int) acc = some (bs (acc.map (fun x => UInt8.ofNat x.toNat) ++ enc n))
  | 0, n, acc, _, h, _ => by have := enc_pos n; omega
  | k + 1, n, acc, hn, h, hl => by
    have hp := enc_pos n
    simp only [postroomref1_Put.l0]
    rw [show Int.tdiv (n : Int) 128 = ((n / 128 : Nat) : Int) from tdiv_nat n 128, show Int.tmod (n : Int) 128 = ((n % 128 : Nat) : Int) from tmod_nat n 128, u64_id (by omega) (by omega)]
    by_cases h1 : n < 128
    · rw [if_pos (by omega), if_pos (by omega), enc_small h1, strOfNums_bs, List.map_append, show (((n % 128 : Nat) : Int) % 256) = (n : Int) by omega]
      rfl
    · rw [enc_big h1] at h hl ⊢
      rw [if_neg (by omega), if_pos (by omega), show ((128 + ((n % 128 : Nat) : Int)) % 256) = ((n % 128 + 128 : Nat) : Int) by omega]
      simp only [List.length_cons] at h hl
      rw [rput_l0 k (n / 128) _ (by omega) (by omega) (by simp only [List.length_append, List.length_cons, List.length_nil]; omega), List.map_append, List.append_assoc]
      rfl
theorem rput_f {k n : Nat} (hn : n < 18446744073709551616) (hk : 10 ≤ k) : postroomref1_Put.f k (n : Int) = some (bs (enc n)) := by
  have := enc_len10 hn
  unfold postroomref1_Put.f
  rw [rput_l0 k n [] hn (by omega) (by simp only [List.length_nil]; omega)]
  rfl
theorem rputInt_f {k : Nat} {m : Int} (hm : -9223372036854775808 ≤ m ∧ m < 9223372036854775808) (hk : 10 ≤ k) : postroomref1_PutInt.f k m = some (bs (enc (zig m))) := by
  unfold postroomref1_PutInt.f
  have hz := zig_lt hm
  by_cases h : m ≥ 0
  · rw [if_pos h, u64_id (x := m) (by omega) (by omega), u64_id (by omega) (by omega), show 2 * m = ((zig m : Nat) : Int) by unfold zig; rw [if_pos (by omega)]; omega, rput_f hz hk]
    rfl
  · rw [if_neg h, w64_id (x := m + 1) (by omega) (by omega), w64_id (by omega) (by omega), u64_id (x := -(m + 1)) (by omega) (by omega), u64_id (x := 2 * -(m + 1)) (by omega) (by omega), u64_id (by omega) (by omega),
      show 2 * -(m + 1) + 1 = ((zig m : Nat) : Int) by unfold zig; rw [if_neg (by omega)]; omega, rput_f hz hk]
    rfl
theorem rputText_f {k : Nat} {l : List UInt8} (hl : l.length ≤ 140737488351232) (hk : 10 ≤ k) : postroomref1_PutText.f k (bs l) = some (bs (encT l)) := by
  unfold postroomref1_PutText.f
  have := enc_len10 (n := l.length) (by omega)
  rw [bs_size, u64_id (by omega) (by omega), rput_f (by omega) hk]
  simp only [bsome]
  rw [bs_size, if_pos (by omega), bs_app]
  rfl
end Go.Proofs.YthaegbiblblccaaGreatDoor.Num
