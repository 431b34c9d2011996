/- FrameTorn: of frames, one behind the other, cut off anywhere, those are told that are whole. Conditions: the law's own. -/
import Derived.Test.YtbhbbnfkblibfaaDoorFrmTorn
import Derived.Test.YtbhbbnfkblibfaaDoorXFrmx5
import Derived.Test.YtbhbbnfkblibfaaDoorXFrmx8
import Derived.Test.YtbhbbnfkblibfaaDoorXFrmx9
namespace Go.Proofs.YtbhbbnfkblibfaaDoor
open Go.RowKit Go.Proofs.YtbhbbnfkblibfaaDoorW.PrintWords Go.Proofs.YtbhbbnfkblibfaaDoorW.PrintMore Go.Proofs.YtbhbbnfkblibfaaDoor.XFrm Go.Proofs.YtbhbbnfkblibfaaDoor.Num Go.Proofs.YtbhbbnfkblibfaaDoor.Frm
set_option linter.unusedVariables false
set_option linter.unusedSimpArgs false
theorem torn_end (k : Nat) (xs fs : List (Nat × List UInt8)) (w m : Nat) (hx : xs = fs.take w) (hw : w ≤ fs.length) (hl : fs.length ≤ 20) (hk : 100 ≤ k) :
    ((postroomlaw6_as.f k (xs.map toS)).bind fun t244 => (if (0 : Int) ≤ (w : Int) then (if (w : Int) ≤ ((fs.map toR).length : Int) then ((postroomref6_Same.f k t244 ((fs.map toR).take (w : Int).toNat)).bind fun t251 => (if t251 = true then (some ((m : Int) == (m : Int))) else (some false))) else (none)) else (none))) = some true := by
  have hxl : xs.length ≤ 20 := by rw [hx, List.length_take]; omega
  rw [as_f (by omega) (by omega), bsome, if_pos (by omega), if_pos (by rw [List.length_map]; omega), same_f (by rw [Int.toNat_natCast, hx, List.map_take]) (by rw [List.length_map]; omega) (by rw [List.length_map]; omega), bsome, if_pos rfl, beq_self_eq_true]
theorem torn_end2 (k : Nat) (xs fs : List (Nat × List UInt8)) (w m : Nat) (hx : xs = fs.take w) (hw : w ≤ fs.length) (hl : fs.length ≤ 20) (hk : 100 ≤ k) :
    ((postroomlaw6_as.f k (xs.map toS)).bind fun t244 => (if (w : Int) ≤ ((fs.map toR).length : Int) then ((postroomref6_Same.f k t244 ((fs.map toR).take (w : Int).toNat)).bind fun t251 => (if t251 = true then (some ((m : Int) == (m : Int))) else (some false))) else (none))) = some true := by
  have hxl : xs.length ≤ 20 := by rw [hx, List.length_take]; omega
  rw [as_f (by omega) (by omega), bsome, if_pos (by rw [List.length_map]; omega), same_f (by rw [Int.toNat_natCast, hx, List.map_take]) (by rw [List.length_map]; omega) (by rw [List.length_map]; omega), bsome, if_pos rfl, beq_self_eq_true]
theorem torn_l0 (xs fs : List (Nat × List UInt8)) (t n : Nat) (ht : t ≤ 100000) (hl : fs.length ≤ 20) (hx : xs = fs.take (fit fs t)) (hn : n = (frs (fs.take (fit fs t))).length) (hs : (frs fs).length ≤ 100000) (hg : good fs) :
    ∀ (rest : List (Nat × List UInt8)) (i k m : Nat), fs.drop i = rest → i ≤ fs.length → m = (frs (fs.take i)).length → m ≤ t → fit fs t = i + fit rest (t - m) → rest.length + 101 ≤ k →
      postroomlaw6_FrameTorn.l0 k (fs.map toR) (t : Int) (xs.map toS) (n : Int) (i : Int) (m : Int) = some true := by
  intro rest
  induction rest with
  | nil =>
    intro i k m hd hi hm hmt hf hk
    obtain ⟨k, rfl⟩ : ∃ q, k = q + 1 := ⟨k - 1, by clear hx hn hf; omega⟩
    have hfi : fit fs t = i := hf
    have hil : fs.length ≤ i := drop_nil hd
    have hnm : n = m := by rw [hn, hm, hfi]
    subst hnm
    rw [postroomlaw6_FrameTorn.l0, List.length_map, if_neg (nlt (Nat.not_lt.2 hil))]
    have h := torn_end k xs fs i n (by rw [hx, hfi]) hi hl (by rw [List.length_nil] at hk; exact Nat.le_of_succ_le_succ (Nat.le_trans (show 101 ≤ 0 + 101 by decide) hk))
    rw [List.length_map] at h
    exact h
  | cons x rest IH =>
    obtain ⟨a, b⟩ := x
    intro i k m hd hi hm hmt hf hk
    rw [List.length_cons] at hk
    obtain ⟨k, rfl⟩ : ∃ q, k = q + 1 := ⟨k - 1, by clear hx hn hf; omega⟩
    have hk2 : rest.length + 101 ≤ k := by clear hx hn hf; omega
    have hk3 : 100 ≤ k := by clear hx hn hf; omega
    obtain ⟨hlt, hxi, hdr, hlen⟩ := drop_at hd
    have hgi := hg (a, b) (by rw [← hxi]; exact List.getElem_mem _)
    have hfl : (fr a b).length ≤ 2024 := fr_le hgi.1 hgi.2
    have hm2 : (frs (fs.take (i + 1))).length = m + (fr a b).length := by
      rw [List.take_succ_eq_append_getElem hlt, hxi, frs_app, List.length_append, ← hm]
      simp only [frs, List.append_nil]
    have e2 : (toR (a, b)).f2 = ((fr a b).length : Int) := rfl
    have ew : wrap64 ((m : Int) + ((fr a b).length : Int)) = ((m + (fr a b).length : Nat) : Int) := w_add (Nat.le_trans hmt (Nat.le_trans ht (by decide))) (Nat.le_trans hfl (by decide))
    have ew2 : wrap64 ((i : Int) + 1) = ((i + 1 : Nat) : Int) := w_succ (Nat.le_trans hi (Nat.le_trans hl (by decide)))
    rw [postroomlaw6_FrameTorn.l0, List.length_map, if_pos (ylt hlt), if_pos (y0 i), rd_R fs i hlt, hxi, e2, ew, ew2]
    rw [fit_cons] at hf
    by_cases hc : m + (fr a b).length ≤ t
    · rw [if_pos ((fit_step hmt).2 hc)] at hf
      rw [if_pos (yle hc)]
      refine IH (i + 1) k (m + (fr a b).length) hdr hlt hm2.symm hc ?_ hk2
      rw [hf, Nat.sub_sub]
      clear hx hn hf hd hm hm2
      omega
    · rw [if_neg (fun h => hc ((fit_step hmt).1 h))] at hf
      rw [if_neg (nle hc)]
      have hfi : fit fs t = i := hf
      have hnm : n = m := by rw [hn, hm, hfi]
      subst hnm
      have h := torn_end2 k xs fs i n (by rw [hx, hfi]) hi hl hk3
      rw [List.length_map] at h
      exact h
theorem Pure.FrameTorn : postroomlaw6_FrameTorn.Pure := by
  intro a0 l a2 h0 hl1 hl2 hw h2
  obtain ⟨g0, g1⟩ := wf_u64 h0
  obtain ⟨a, rfl⟩ : ∃ n : Nat, a0 = (n : Int) := ⟨_, (Int.toNat_of_nonneg g0).symm⟩
  have ha : a < 18446744073709551616 := by omega
  have hlen := rowL_len a l
  have hsh := rowL_short a l 0
  have hg := (rowL_good a l 0).1
  have hrow : ∀ k, 20222 ≤ k → postroomlaw6_row.f k (a : Int) l = some ((rowL a 0 l).map toR, bs (frs (rowL a 0 l))) := fun k hk => row_f ha hl1 hw hk
  generalize rowL a 0 l = fs at hlen hsh hg hrow
  have hS : (frs fs).length ≤ 1480 := by clear hl1 hl2; omega
  obtain ⟨t, ht, hp⟩ := pickN (wf_i64 h2) ((frs fs).length + 1) (Nat.succ_pos _) (Nat.lt_of_le_of_lt (Nat.succ_le_succ hS) (by decide))
  have ew : wrap64 (((frs fs).length : Int) + 1) = (((frs fs).length + 1 : Nat) : Int) := w_succ (Nat.le_trans hS (by decide))
  have htl : t ≤ (frs fs).length := Nat.le_of_lt_succ ht
  have ht2 : t ≤ 100000 := Nat.le_trans htl (Nat.le_trans hS (by decide))
  refine ⟨100300, ?_⟩
  unfold postroomlaw6_FrameTorn.f
  rw [shown_f (by decide), bsome, if_pos rfl, hrow _ (by decide), bsome]
  simp only
  rw [bs_size, ew, hp, bsome, if_pos (y0 t), if_pos (yle htl), Int.toNat_natCast, bs_take, scan_f (by rw [List.length_take]; exact Nat.le_trans (Nat.min_le_left _ _) ht2) (by decide), bsome]
  have h := torn_l0 (scanA ((frs fs).take t)) fs t _ ht2 hlen (scan_take fs t hg) rfl (Nat.le_trans hS (by decide)) hg fs 0 100300 0 rfl (Nat.zero_le _) rfl (Nat.zero_le _) (by rw [Nat.zero_add, Nat.sub_zero]) (Nat.le_trans (Nat.add_le_add_right hlen 101) (by decide))
  rw [scan_take fs t hg] at h ⊢
  exact h
end Go.Proofs.YtbhbbnfkblibfaaDoor
