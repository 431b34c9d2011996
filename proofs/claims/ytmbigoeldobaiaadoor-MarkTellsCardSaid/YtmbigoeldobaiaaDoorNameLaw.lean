/- Names: the document's reader of names comes to the plain law's. Conditions: those that each theorem names. -/
import Derived.Test.YtmbigoeldobaiaaDoorGLabelName
import Derived.Test.YtmbigoeldobaiaaDoorXMrkP1
namespace Go.Proofs.YtmbigoeldobaiaaDoor.Nam
open Go Go.RowKit Go.Proofs.YtmbigoeldobaiaaDoorW.PrintWords Go.Proofs.YtmbigoeldobaiaaDoorW.PrintLast Go.Proofs.YtmbigoeldobaiaaDoorW.PrintMore Go.Proofs.YtmbigoeldobaiaaDoor.Num Go.Proofs.YtmbigoeldobaiaaDoor.XMrk
set_option linter.unusedVariables false
set_option linter.unusedSimpArgs false
theorem w_succ {i : Nat} (h : i < 9223372036854775807) : wrap64 ((i : Int) + 1) = ((i + 1 : Nat) : Int) := by rw [w64_id (by omega) (by omega)]; omega
set_option maxRecDepth 100000 in
theorem let_n : ∀ n : Nat, n < 256 → letters.contains (UInt8.ofNat n) = ((decide (97 ≤ n) && decide (n ≤ 122)) || n == 95) := by decide
set_option maxRecDepth 100000 in
theorem lat_n : ∀ n : Nat, n < 256 → laters.contains (UInt8.ofNat n) = (((decide (97 ≤ n) && decide (n ≤ 122)) || n == 95) || (decide (48 ≤ n) && decide (n ≤ 57))) := by decide
theorem let_iff (c : UInt8) : letters.contains c = ((decide (97 ≤ c.toNat) && decide (c.toNat ≤ 122)) || c.toNat == 95) := by
 have h := let_n c.toNat c.toNat_lt
 rwa [show UInt8.ofNat c.toNat = c by simp] at h
theorem lat_iff (c : UInt8) : laters.contains c = (((decide (97 ≤ c.toNat) && decide (c.toNat ≤ 122)) || c.toNat == 95) || (decide (48 ≤ c.toNat) && decide (c.toNat ≤ 57))) := by
 have h := lat_n c.toNat c.toNat_lt
 rwa [show UInt8.ofNat c.toNat = c by simp] at h
theorem name_step (l : List UInt8) (hl : l.length ≤ 9223372036854775807) (k i : Nat) (hi : i < l.length) :
  postroomref3_Name.l0 (k + 1) (bs l) (i : Int) = if (if i = 0 then letters.contains l[i] else laters.contains l[i]) = true then postroomref3_Name.l0 k (bs l) ((i + 1 : Nat) : Int) else some false := by
 rw [postroomref3_Name.l0, bs_size, if_pos (by omega), if_pos (by omega), bt_bs l i hi, w_succ (by omega), let_iff, lat_iff]
 generalize l[i].toNat = n
 by_cases a : 97 ≤ n
 ·rw [if_pos (by omega)]
  by_cases b : n ≤ 122
  ·rw [if_pos (by omega), decide_eq_true a, decide_eq_true b]; simp
  ·rw [if_neg (by omega), if_neg (by omega), decide_eq_false b]
   have h95 : (n == 95) = false := beq_eq_false_iff_ne.2 (by omega)
   rw [h95]
   by_cases z : i = 0
   ·rw [if_pos (by omega), if_pos z]; simp
   ·rw [if_neg (by omega), if_neg z, if_neg (by omega), if_pos (by omega), decide_eq_false (show ¬ n ≤ 57 by omega)]; simp
 ·rw [if_neg (by omega), decide_eq_false a]
  by_cases b : n = 95
  ·rw [if_pos (by omega), b]; simp
  ·rw [if_neg (by omega)]
   have h95 : (n == 95) = false := beq_eq_false_iff_ne.2 b
   rw [h95]
   by_cases z : i = 0
   ·rw [if_pos (by omega), if_pos z]; simp
   ·rw [if_neg (by omega), if_neg z]
    by_cases c : n < 48
    ·rw [if_pos (by omega), decide_eq_false (show ¬ 48 ≤ n by omega)]; simp
    ·rw [if_neg (by omega), decide_eq_true (show 48 ≤ n by omega)]
     by_cases e : n > 57
     ·rw [if_pos (by omega), decide_eq_false (show ¬ n ≤ 57 by omega)]; simp
     ·rw [if_neg (by omega), decide_eq_true (show n ≤ 57 by omega)]; simp
theorem name_l0 (l : List UInt8) (hl : l.length ≤ 9223372036854775807) : ∀ (d k i : Nat), i + d = l.length → 1 ≤ i → d < k → postroomref3_Name.l0 k (bs l) (i : Int) = some ((l.drop i).all (laters.contains ·) && decide (l.length ≤ 20))
 | 0, k, i, hi, h1, hk => by
  obtain ⟨k, rfl⟩ : ∃ q, k = q + 1 := ⟨k - 1, by omega⟩
  rw [postroomref3_Name.l0, bs_size, if_neg (by omega), if_pos (by omega), List.drop_eq_nil_of_le (by omega)]
  simp; omega
 | d + 1, k, i, hi, h1, hk => by
  obtain ⟨k, rfl⟩ : ∃ q, k = q + 1 := ⟨k - 1, by omega⟩
  have hlt : i < l.length := by omega
  rw [name_step l hl k i hlt, if_neg (by omega : ¬ i = 0), List.drop_eq_getElem_cons hlt, List.all_cons, name_l0 l hl d k (i + 1) (by omega) (by omega) (by omega)]
  by_cases c : laters.contains l[i] = true
  ·rw [if_pos c, c]; simp
  ·rw [if_neg c, Bool.eq_false_iff.mpr c]; simp
theorem rname_f (l : List UInt8) (hl : l.length ≤ 9223372036854775807) {k : Nat} (hk : l.length < k) : postroomref3_Name.f k (bs l) = some (nameOk l) := by
 unfold postroomref3_Name.f
 obtain ⟨k, rfl⟩ : ∃ q, k = q + 1 := ⟨k - 1, by omega⟩
 cases l with
 | nil =>
  rw [postroomref3_Name.l0, bs_size, if_neg (by simp), if_neg (by simp)]; rfl
 | cons c r =>
  have h := name_step (c :: r) hl k 0 (by simp)
  rw [show ((0 : Nat) : Int) = 0 from rfl] at h
  rw [h, if_pos rfl]
  have h2 := name_l0 (c :: r) hl r.length k 1 (by simp; omega) (by omega) (by simp at hk; omega)
  unfold nameOk
  simp only [List.getElem_cons_zero, List.all_cons, List.drop_succ_cons, List.drop_zero] at h2 ⊢
  by_cases e : letters.contains c = true
  ·rw [if_pos e]
   refine h2.trans ?_
   have e2 : laters.contains c = true := by
    rw [lat_iff]; rw [let_iff] at e; rw [e]; rfl
   rw [e, e2]
   congr 1
   simp [Bool.and_comm]
  ·rw [if_neg e, Bool.eq_false_iff.mpr e]; simp
end Go.Proofs.YtmbigoeldobaiaaDoor.Nam
