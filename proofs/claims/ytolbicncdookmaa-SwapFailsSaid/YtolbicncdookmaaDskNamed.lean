/- The disk's named comes to the plain law's. Conditions: a text's length. -/
import Derived.Test.YtolbicncdookmaaNumLib
import Derived.Test.YtolbicncdookmaaDskPure
import Derived.Test.YtolbicncdookmaaXDskx1
namespace Go.Proofs.Ytolbicncdookmaa.XDsk
open Go Go.RowKit Go.Proofs.YtolbicncdookmaaW.PrintWords Go.Proofs.YtolbicncdookmaaW.PrintLast Go.Proofs.YtolbicncdookmaaW.PrintMore Go.Proofs.Ytolbicncdookmaa.Num
set_option linter.unusedVariables false
set_option linter.unusedSimpArgs false
def okC (c : UInt8) : Bool := decide (33 ≤ c.toNat) && decide (c.toNat ≤ 126)
theorem w_succ {i : Nat} (h : i < 9223372036854775807) : wrap64 ((i : Int) + 1) = ((i + 1 : Nat) : Int) := by rw [w64_id (by omega) (by omega)]; omega
theorem named_bs (l : List UInt8) : namedB (bs l) = (l.all okC && decide (1 ≤ l.length) && decide (l.length ≤ 24)) := by
  unfold namedB
  rw [bs_size]; rfl
theorem named_l0 (l : List UInt8) (hl : l.length ≤ 9223372036854775806) : ∀ (d k i : Nat), i + d = l.length → d < k → disk_named.l0 k (bs l) (l.length : Int) (i : Int) = some ((l.drop i).all okC && decide (1 ≤ l.length) && decide (l.length ≤ 24))
  | 0, k, i, hi, hk => by
    obtain ⟨k, rfl⟩ : ∃ q, k = q + 1 := ⟨k - 1, by omega⟩
    rw [disk_named.l0, if_neg (by omega), List.drop_eq_nil_of_le (by omega), bs_toList, bs_size]
    by_cases h : l = []
    · rw [if_pos h, h]; rfl
    · have h1 : 1 ≤ l.length := List.length_pos_iff.2 h
      rw [if_neg h, decide_eq_true h1]
      simp
      omega
  | d + 1, k, i, hi, hk => by
    obtain ⟨k, rfl⟩ : ∃ q, k = q + 1 := ⟨k - 1, by omega⟩
    have hlt : i < l.length := by omega
    rw [disk_named.l0, if_pos (by omega), if_pos (by omega), if_pos (by rw [bs_size]; omega), bt_bs l i hlt, w_succ (by omega), named_l0 l hl d k (i + 1) (by omega) (by omega), List.drop_eq_getElem_cons hlt, List.all_cons]
    unfold okC
    generalize l[i].toNat = n
    by_cases a : 33 ≤ n
    · rw [if_neg (by omega), decide_eq_true a]
      by_cases b : n ≤ 126
      · rw [if_neg (by omega), decide_eq_true b]; simp
      · rw [if_pos (by omega), decide_eq_false b]; simp
    · rw [if_pos (by omega), decide_eq_false a]; simp
theorem named_f (s : ByteArray) (hs : s.size ≤ 9223372036854775806) : ∃ k, disk_named.f k s = some (namedB s) := by
  obtain ⟨l, rfl⟩ := bs_list s
  rw [bs_size] at hs
  refine ⟨l.length + 1, ?_⟩
  unfold disk_named.f
  rw [bs_size, named_bs]
  exact named_l0 l hs l.length _ 0 (by omega) (by omega)
end Go.Proofs.Ytolbicncdookmaa.XDsk
