/- swap: which names fit; a text's last byte. Conditions: a text's length. -/
import Derived.Test.YtolbicncdookmaaDskNamed
import Derived.Test.YtolbicncdookmaaXDskx2
import Derived.Test.YtolbicncdookmaaXDskx1
import Derived.Test.YtolbicncdookmaaXDskx2
namespace Go.Proofs.Ytolbicncdookmaa.XDsk
open Go Go.RowKit Go.Proofs.YtolbicncdookmaaW.PrintWords Go.Proofs.YtolbicncdookmaaW.PrintLast Go.Proofs.YtolbicncdookmaaW.PrintMore Go.Proofs.Ytolbicncdookmaa.Num
set_option linter.unusedVariables false
set_option linter.unusedSimpArgs false
def tildeB (s : ByteArray) : Bool := (s.extract (s.size - 1) s.size).toList == (⟨#[126]⟩ : ByteArray).toList
def fitsB (s : ByteArray) : Bool := s.data.toList.all okC && decide (1 ≤ s.size) && decide (s.size < 24) && !tildeB s
theorem suffix_is (s : ByteArray) (h1 : 1 ≤ s.size) (hs : s.size ≤ 9223372036854775806) : strings_HasSuffix.f s ⟨#[126]⟩ = some (tildeB s) := by
  have e1 : ((⟨#[126]⟩ : ByteArray).size : Int) = 1 := rfl
  have e2 : wrap64 ((s.size : Int) - 1) = (s.size : Int) - 1 := w64_id (by omega) (by omega)
  have e3 : ((s.size : Int) - 1).toNat = s.size - 1 := by omega
  unfold strings_HasSuffix.f stringslite_HasSuffix.f
  rw [e1, e2, e3, if_pos (by omega), if_pos (by omega), if_pos (by omega)]
  rfl
theorem suffix_short (s : ByteArray) (h1 : s.size = 0) : strings_HasSuffix.f s ⟨#[126]⟩ = some false := by
  have e1 : ((⟨#[126]⟩ : ByteArray).size : Int) = 1 := rfl
  unfold strings_HasSuffix.f stringslite_HasSuffix.f
  rw [e1, if_neg (by omega)]
  rfl
theorem fits_l0 (l : List UInt8) (hl : l.length ≤ 9223372036854775806) : ∀ (d k i : Nat), i + d = l.length → d < k → swap_fits.l0 k (bs l) (l.length : Int) (i : Int) = some ((l.drop i).all okC && decide (1 ≤ l.length) && decide (l.length < 24) && !tildeB (bs l))
  | 0, k, i, hi, hk => by
    obtain ⟨k, rfl⟩ : ∃ q, k = q + 1 := ⟨k - 1, by omega⟩
    rw [swap_fits.l0, if_neg (by omega), List.drop_eq_nil_of_le (by omega), bs_toList]
    by_cases h : l = []
    · rw [if_pos h, h]; rfl
    · have h1 : 1 ≤ l.length := List.length_pos_iff.2 h
      rw [if_neg h, decide_eq_true h1, bs_size]
      by_cases h2 : l.length < 24
      · rw [if_pos (by omega), suffix_is (bs l) (by rw [bs_size]; omega) (by rw [bs_size]; omega), decide_eq_true h2]
        simp
      · rw [if_neg (by omega), decide_eq_false h2]
        simp
  | d + 1, k, i, hi, hk => by
    obtain ⟨k, rfl⟩ : ∃ q, k = q + 1 := ⟨k - 1, by omega⟩
    have hlt : i < l.length := by omega
    rw [swap_fits.l0, if_pos (by omega), if_pos (by omega), if_pos (by rw [bs_size]; omega), bt_bs l i hlt, w_succ (by omega), fits_l0 l hl d k (i + 1) (by omega) (by omega), List.drop_eq_getElem_cons hlt, List.all_cons]
    unfold okC
    generalize l[i].toNat = n
    by_cases a : 33 ≤ n
    · rw [if_neg (by omega), decide_eq_true a]
      by_cases b : n ≤ 126
      · rw [if_neg (by omega), decide_eq_true b]; simp
      · rw [if_pos (by omega), decide_eq_false b]; simp
    · rw [if_pos (by omega), decide_eq_false a]; simp
theorem fits_f (s : ByteArray) (hs : s.size ≤ 9223372036854775806) : ∃ k, swap_fits.f k s = some (fitsB s) := by
  obtain ⟨l, rfl⟩ := bs_list s
  rw [bs_size] at hs
  refine ⟨l.length + 1, ?_⟩
  unfold swap_fits.f fitsB
  rw [bs_size]
  exact fits_l0 l hs l.length _ 0 (by omega) (by omega)
end Go.Proofs.Ytolbicncdookmaa.XDsk
