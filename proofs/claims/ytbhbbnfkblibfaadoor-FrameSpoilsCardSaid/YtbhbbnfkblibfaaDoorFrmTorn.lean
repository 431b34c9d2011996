/- What a cut leaves of frames; picking; reading a row's element. Conditions: those that each theorem names. -/
import Derived.Test.YtbhbbnfkblibfaaDoorFrmRow
import Derived.Test.YtbhbbnfkblibfaaDoorXFrmx0
import Derived.Test.YtbhbbnfkblibfaaDoorXFrmx8
namespace Go.Proofs.YtbhbbnfkblibfaaDoor.Frm
open Go.RowKit Go.Proofs.YtbhbbnfkblibfaaDoorW.PrintWords Go.Proofs.YtbhbbnfkblibfaaDoorW.PrintMore Go.Proofs.YtbhbbnfkblibfaaDoor.XFrm Go.Proofs.YtbhbbnfkblibfaaDoor.Num
set_option linter.unusedVariables false
set_option linter.unusedSimpArgs false
theorem w_add {m n : Nat} (hm : m ≤ 200000) (hn : n ≤ 200000) : wrap64 ((m : Int) + (n : Int)) = ((m + n : Nat) : Int) := by rw [w64_id (by omega) (by omega)]; omega
theorem w_succ {i : Nat} (h : i ≤ 200000) : wrap64 ((i : Int) + 1) = ((i + 1 : Nat) : Int) := w_add (n := 1) h (by decide)
theorem drop_at {α : Type} {fs rest : List α} {x : α} {i : Nat} (hd : fs.drop i = x :: rest) : ∃ h : i < fs.length, fs[i] = x ∧ fs.drop (i + 1) = rest ∧ fs.length = i + (rest.length + 1) := by
  have hlen := congrArg List.length hd
  rw [List.length_drop, List.length_cons] at hlen
  have hlt : i < fs.length := by omega
  refine ⟨hlt, ?_, ?_, by omega⟩
  · have h1 : fs[i]? = some x := by
      have := congrArg (fun z => z[0]?) hd
      simpa using this
    rw [List.getElem?_eq_getElem hlt] at h1
    exact Option.some.inj h1
  · rw [← List.drop_drop, hd]; rfl
theorem drop_nil {α : Type} {fs : List α} {i : Nat} (hd : fs.drop i = []) : fs.length ≤ i := by
  have := congrArg List.length hd
  rw [List.length_drop, List.length_nil] at this; omega
theorem nlt {a b : Nat} (h : ¬ a < b) : ¬ (a : Int) < (b : Int) := by omega
theorem ylt {a b : Nat} (h : a < b) : (a : Int) < (b : Int) := by omega
theorem yle {a b : Nat} (h : a ≤ b) : (a : Int) ≤ (b : Int) := by omega
theorem nle {a b : Nat} (h : ¬ a ≤ b) : ¬ (a : Int) ≤ (b : Int) := by omega
theorem y0 (a : Nat) : (0 : Int) ≤ (a : Int) := by omega
theorem fit_step {t m n : Nat} (h : m ≤ t) : n ≤ t - m ↔ m + n ≤ t := by omega
theorem pickN {a : Int} (h : -9223372036854775808 ≤ a ∧ a < 9223372036854775808) (n : Nat) (hn : 0 < n) (hm : n < 9223372036854775808) : ∃ t : Nat, t < n ∧ postroomlaw6_pick.f a (n : Int) = some (t : Int) := by
  have hp : (0 : Int) < (n : Int) := by omega
  unfold postroomlaw6_pick.f
  by_cases h0 : a < 0
  · rw [if_pos h0, if_neg (by omega), w64_id (x := a + 1) (by omega) (by omega), w64_id (by omega) (by omega), Int.tmod_eq_emod_of_nonneg (by omega)]
    have h1 := Int.emod_nonneg (-(a + 1)) (show (n : Int) ≠ 0 by omega)
    have h2 := Int.emod_lt_of_pos (-(a + 1)) hp
    exact ⟨(-(a + 1) % (n : Int)).toNat, by omega, by congr 1; omega⟩
  · rw [if_neg h0, if_neg (by omega), Int.tmod_eq_emod_of_nonneg (by omega)]
    have h1 := Int.emod_nonneg a (show (n : Int) ≠ 0 by omega)
    have h2 := Int.emod_lt_of_pos a hp
    exact ⟨(a % (n : Int)).toNat, by omega, by congr 1; omega⟩
theorem rd_R (fs : List (Nat × List UInt8)) (i : Nat) (h : i < fs.length) : rd_T43 (fs.map toR) (i : Int) = toR fs[i] := by
  unfold rd_T43
  rw [Int.toNat_natCast, List.getD_eq_getElem?_getD, List.getElem?_map, List.getElem?_eq_getElem h]
  rfl
theorem rd_Sx (fs : List (Nat × List UInt8)) (i : Nat) (h : i < fs.length) : rd_T28 (fs.map toS) (i : Int) = toS fs[i] := by
  unfold rd_T28
  rw [Int.toNat_natCast, List.getD_eq_getElem?_getD, List.getElem?_map, List.getElem?_eq_getElem h]
  rfl
theorem strict_none {n : Nat} {b p q : List UInt8} (hn : n < 18446744073709551616) (hb : b.length ≤ 2000) (h : fr n b = p ++ q) (hq : q ≠ []) : fst p = none := by
  cases e : fst p with
  | none => rfl
  | some x =>
    obtain ⟨m, c, r⟩ := x
    obtain ⟨hp, hm, hc⟩ := fst_some e
    have h2 : fr n b ++ [] = fr m c ++ (r ++ q) := by rw [List.append_nil, h, hp, List.append_assoc]
    have h3 := (fr_inj hn hb hm hc h2).2.2
    exact absurd (List.append_eq_nil_iff.1 h3.symm).2 hq
def fit : List (Nat × List UInt8) → Nat → Nat
  | [], _ => 0
  | (n, b) :: fs, t => if (fr n b).length ≤ t then fit fs (t - (fr n b).length) + 1 else 0
theorem fit_cons (n : Nat) (b : List UInt8) (fs : List (Nat × List UInt8)) (t : Nat) : fit ((n, b) :: fs) t = if (fr n b).length ≤ t then fit fs (t - (fr n b).length) + 1 else 0 := rfl
theorem fit_le : ∀ (fs : List (Nat × List UInt8)) (t : Nat), fit fs t ≤ fs.length
  | [], _ => Nat.le_refl _
  | (n, b) :: fs, t => by
    unfold fit; split
    · have := fit_le fs (t - (fr n b).length); rw [List.length_cons]; omega
    · exact Nat.zero_le _
theorem scan_take : ∀ (fs : List (Nat × List UInt8)) (t : Nat), good fs → scanA ((frs fs).take t) = fs.take (fit fs t)
  | [], t, _ => by simp only [frs, List.take_nil]; rfl
  | (n, b) :: fs, t, h => by
    have h1 := h (n, b) (List.mem_cons_self ..)
    unfold fit
    simp only [frs]
    by_cases hl : (fr n b).length ≤ t
    · rw [if_pos hl, List.take_append, List.take_of_length_le hl, scanA_put _ h1.1 h1.2, scan_take fs _ (fun f hf => h f (List.mem_cons_of_mem _ hf)), List.take_succ_cons]
    · rw [if_neg hl, List.take_append, show t - (fr n b).length = 0 by omega, List.take_zero, List.append_nil, List.take_zero]
      refine scanA_none (strict_none (q := (fr n b).drop t) h1.1 h1.2 (List.take_append_drop _ _).symm ?_)
      intro e
      have := congrArg List.length e
      rw [List.length_drop, List.length_nil] at this
      omega
end Go.Proofs.YtbhbbnfkblibfaaDoor.Frm
