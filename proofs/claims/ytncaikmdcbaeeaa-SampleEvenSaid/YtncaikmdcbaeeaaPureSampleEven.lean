/- SampleEven: samples at even steps, of one value, have two bytes each, but for the first two. Conditions: the law's own. -/
import Derived.Test.YtncaikmdcbaeeaaSmpGlue
import Derived.Test.YtncaikmdcbaeeaaXSmpx10
namespace Go.Proofs.Ytncaikmdcbaeeaa
open Go.RowKit Go.Proofs.YtncaikmdcbaeeaaW.PrintWords Go.Proofs.YtncaikmdcbaeeaaW.PrintLast Go.Proofs.YtncaikmdcbaeeaaW.PrintMore Go.Proofs.Ytncaikmdcbaeeaa.XSmp Go.Proofs.Ytncaikmdcbaeeaa.Num Go.Proofs.Ytncaikmdcbaeeaa.Smp
set_option linter.unusedVariables false
set_option linter.unusedSimpArgs false
theorem chk_ok (x : S) (r : List S) (h : rises x r = true) (hl : (x :: r).length ≤ 20) : chk (x :: r) = 0 := by
  simp only [chk]
  rw [if_neg (by omega), h]
  rfl
/-- Rows at even steps. -/
def evens (a d v : Int) : Nat → Nat → List S
  | _, 0 => []
  | i, n + 1 => ⟨a + (i : Int) * d, v⟩ :: evens a d v (i + 1) n
theorem evens_len (a d v : Int) : ∀ (n i : Nat), (evens a d v i n).length = n
  | 0, _ => rfl
  | n + 1, i => by simp [evens, evens_len a d v n]
theorem evens_rises (a d v : Int) (hd : 0 < d) : ∀ (n i : Nat), rises ⟨a + (i : Int) * d, v⟩ (evens a d v (i + 1) n) = true
  | 0, _ => rfl
  | n + 1, i => by
    simp only [evens, rises]
    have e : ((i + 1 : Nat) : Int) * d = i * d + d := by rw [Int.natCast_add, Int.add_mul]; omega
    rw [decide_eq_true (by rw [e]; omega), Bool.true_and]
    exact evens_rises a d v hd n (i + 1)
theorem evens_wf {a d v : Int} (ha : 0 ≤ a ∧ a < 1099511627776) (hd : 0 < d ∧ d ≤ 1099511627776) (hv : (Lit.int .i64 v).wf = true) : ∀ (n i : Nat), i + n ≤ 100 → ∀ x ∈ evens a d v i n, WF x
  | 0, _, _, x, hx => by cases hx
  | n + 1, i, hi, x, hx => by
    rcases List.mem_cons.1 hx with rfl | hx
    · refine ⟨?_, hv⟩
      have h1 : 0 ≤ (i : Int) * d := Int.mul_nonneg (by omega) (by omega)
      have h2 : (i : Int) * d ≤ 100 * 1099511627776 := Int.mul_le_mul (by omega) hd.2 (by omega) (by omega)
      simp [Lit.wf, IntKind.min, IntKind.max, IntKind.signed, IntKind.bits]; omega
    · exact evens_wf ha hd hv n (i + 1) (by omega) x hx
theorem evens_body {a d v : Int} (ha : 0 ≤ a ∧ a < 1099511627776) (hd : 0 < d ∧ d ≤ 1099511627776) : ∀ (n i : Nat), i + n ≤ 100 → body (wrap64 (a + (i : Int) * d)) d v (evens a d v (i + 1) n) = List.replicate (2 * n) 0
  | 0, _, _ => rfl
  | n + 1, i, hi => by
    have h1 : 0 ≤ (i : Int) * d := Int.mul_nonneg (by omega) (by omega)
    have h2 : (i : Int) * d ≤ 100 * 1099511627776 := Int.mul_le_mul (by omega) hd.2 (by omega) (by omega)
    have e : ((i + 1 : Nat) : Int) * d = i * d + d := by rw [Int.natCast_add, Int.add_mul]; omega
    simp only [evens, body]
    have e1 : wrap64 (wrap64 (a + ((i + 1 : Nat) : Int) * d) - wrap64 (a + (i : Int) * d)) = d := by rw [e]; unfold wrap64; omega
    have ih := evens_body (v := v) ha hd n (i + 1) (by omega)
    rw [e1, show wrap64 (d - d) = 0 by rw [Int.sub_self]; exact w64_id (by omega) (by omega), show wrap64 (v - v) = 0 by rw [Int.sub_self]; exact w64_id (by omega) (by omega), ih, show enc (zig 0) = [0] by decide +kernel, show 2 * (n + 1) = 2 * n + 1 + 1 by omega, List.replicate_succ, List.replicate_succ]
    rfl
theorem evens_take (a d v : Int) (n : Nat) : (evens a d v 0 (n + 2)).take 2 = evens a d v 0 2 := rfl
theorem evens_l0 {a d v : Int} (x0 : Int) (hx : Int.tmod x0 1099511627776 = a) (ha : 0 ≤ a ∧ a < 1099511627776) (hd : 0 < d ∧ d ≤ 1099511627776) (n : Nat) (hn : n ≤ 20) : ∀ (m k i : Nat) (acc : List S), i + m = n → acc.length = i →
    postroomlaw4_SampleEven.l0 (k + m) x0 v (n : Int) d acc (i : Int) = postroomlaw4_SampleEven.l0 k x0 v (n : Int) d (acc ++ evens a d v i m) (n : Int)
  | 0, k, i, acc, hi, _ => by rw [show i = n by omega]; simp [evens]
  | m + 1, k, i, acc, hi, ha' => by
    have h1 : 0 ≤ (i : Int) * d := Int.mul_nonneg (by omega) (by omega)
    have h2 : (i : Int) * d ≤ 100 * 1099511627776 := Int.mul_le_mul (by omega) hd.2 (by omega) (by omega)
    rw [show k + (m + 1) = (k + m) + 1 by omega]
    conv => lhs; rw [postroomlaw4_SampleEven.l0]
    rw [if_pos (by omega), if_pos (by omega), hx, u64_id (x := (i : Int)) (by omega) (by omega), u64_id (x := (i : Int) * d) (by omega) (by omega), u64_id (x := a + (i : Int) * d) (by omega) (by omega), w64_id (by omega) (by omega), show ((i : Int) + 1) = ((i + 1 : Nat) : Int) by omega]
    rw [evens_l0 x0 hx ha hd n hn m k (i + 1) _ (by omega) (by simp [ha']), List.append_assoc]
    rfl
theorem Pure.SampleEven : postroomlaw4_SampleEven.Pure := by
  intro a0 a1 v a3 h0 h1 hv h3
  have g0 := wf_u64 h0
  have g1 := wf_u64 h1
  have g3 := wf_i64 h3
  have hp := pk_rng (n := 19) (by omega) g3
  obtain ⟨a, ha⟩ : ∃ a, Int.tmod a0 1099511627776 = a := ⟨_, rfl⟩
  obtain ⟨c, hc⟩ : ∃ c, Int.tmod a1 1099511627776 = c := ⟨_, rfl⟩
  have ha2 : 0 ≤ a ∧ a < 1099511627776 := by rw [← ha, Int.tmod_eq_emod_of_nonneg g0.1]; omega
  have hc2 : 0 ≤ c ∧ c < 1099511627776 := by rw [← hc, Int.tmod_eq_emod_of_nonneg g1.1]; omega
  obtain ⟨n, hn⟩ : ∃ n : Nat, 2 + pk a3 19 = (n : Int) + 2 := ⟨(pk a3 19).toNat, by omega⟩
  have hd : 0 < 1 + c ∧ 1 + c ≤ 1099511627776 := by omega
  refine ⟨100 + (n + 2), ?_⟩
  unfold postroomlaw4_SampleEven.f
  rw [shown_f, bsome, if_pos rfl, pick_f _ _ (by omega), bsome, hc, w64_id (by omega) (by omega), u64_id (by omega) (by omega), hn]
  have := evens_l0 a0 ha ha2 hd (v := v) (n + 2) (by omega) (n + 2) 100 0 [] (by omega) rfl
  rw [show ((n : Int) + 2) = ((n + 2 : Nat) : Int) by omega]
  simp only [Int.natCast_zero, List.nil_append] at this
  rw [this]
  clear this
  generalize hd' : 1 + c = d at hd
  have hw := evens_wf ha2 hd hv (n + 2) 0 (by omega)
  have hw2 := evens_wf ha2 hd hv 2 0 (by omega)
  have hl := evens_len a d v (n + 2) 0
  have chk1 : ∀ m, m + 1 ≤ 20 → chk (evens a d v 0 (m + 1)) = 0 := by
    intro m hm
    have := evens_rises a d v hd.1 m 0
    have e := evens_len a d v (m + 1) 0
    exact chk_ok _ _ this (by rw [show (⟨a + ((0 : Nat) : Int) * d, v⟩ :: evens a d v (0 + 1) m : List S).length = m + 1 from e]; omega)
  have hk1 := chk1 1 (by omega)
  have hk2 := chk1 (n + 1) (by omega)
  conv => lhs; rw [postroomlaw4_SampleEven.l0]
  have e2 : wrap64 (2 * wrap64 (((n + 2 : Nat) : Int) - 2)) = ((2 * n : Nat) : Int) := by rw [show wrap64 (((n + 2 : Nat) : Int) - 2) = (n : Int) by rw [w64_id (by omega) (by omega)]; omega, w64_id (by omega) (by omega)]; omega
  have hb0 : wrap64 (wrap64 (a + ((1 : Nat) : Int) * d) - wrap64 (a + ((0 : Nat) : Int) * d)) = d := by unfold wrap64; omega
  obtain ⟨T, hT⟩ : ∃ T, enc (a + ((0 : Nat) : Int) * d).toNat ++ enc (zig v) ++ (enc (zig (wrap64 (d - 0))) ++ enc (zig (wrap64 (v - v)))) = T := ⟨_, rfl⟩
  have b2 : Smp.bytes (evens a d v 0 2) = u8 2 :: T := by
    simp only [Smp.bytes, evens, body, List.length_cons, List.length_nil]
    rw [hb0, ← hT, show enc (0 + 1 + 1) = [u8 2] from enc_small (by omega)]
    simp
  have bn : Smp.bytes (evens a d v 0 (n + 2)) = u8 (n + 2) :: (T ++ List.replicate (2 * n) 0) := by
    have hbody := evens_body (v := v) ha2 hd n 1 (by omega)
    simp only [Smp.bytes, evens, body, List.length_cons, evens_len]
    rw [hb0, ← hT, show enc (n + 1 + 1) = [u8 (n + 2)] from enc_small (by omega), hbody]
    simp
  have hTl : T.length ≤ 100 := by
    have := bytes_len hk1 hw2
    have e1 := enc_len10 (n := (a + ((0 : Nat) : Int) * d).toNat) (by omega)
    have e2 := enc_len10 (zig_lt (wf_i64 hv))
    have e3 := enc_len10 (zig_lt (w64_r (d - 0)))
    have e4 := enc_len10 (zig_lt (w64_r (v - v)))
    rw [← hT]; simp only [List.length_append]; omega
  rw [if_neg (by omega), if_pos (by omega), evens_take, put_ok hw2 hk1, bsome, put_ok hw hk2, bsome, if_pos rfl, if_pos rfl, e2, b2, bn]
  rw [if_pos (by simp only [bs_size, List.length_cons, List.length_append, List.length_replicate]; rw [w64_id (by omega) (by omega)]; omega)]
  rw [if_pos (by simp only [bs_size, List.length_cons]; omega), if_pos (by simp only [bs_size, List.length_cons, List.length_append]; omega)]
  rw [if_pos (by rw [bs_ext, bs_ext, bs_toList, bs_toList]; simp [bs_size]), if_pos (by omega), if_pos (by omega), if_pos (by omega)]
  rw [bs_ext, bs_toList]
  have es : (strOfNums (List.replicate (2 * n) 0)).toList = List.replicate (2 * n) 0 := by
    show (bs ((List.replicate (2 * n) (0 : Int)).map fun z => UInt8.ofNat z.toNat)).toList = _
    rw [bs_toList, List.map_replicate]
    rfl
  rw [Int.toNat_natCast, es]
  refine congrArg some ?_
  rw [beq_iff_eq]
  show List.drop (bs (u8 2 :: T)).size (List.take (bs (u8 (n + 2) :: (T ++ List.replicate (2 * n) 0))).size (u8 (n + 2) :: (T ++ List.replicate (2 * n) 0))) = _
  rw [bs_size, bs_size, List.take_length, List.length_cons, List.drop_succ_cons, List.drop_left]
end Go.Proofs.Ytncaikmdcbaeeaa
