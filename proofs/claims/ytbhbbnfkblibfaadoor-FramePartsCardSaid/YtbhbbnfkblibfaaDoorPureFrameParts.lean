/- FrameParts: what is told of bytes is told of them with whatever they are put behind; what is told was put so. Conditions: the law's own. -/
import Derived.Test.YtbhbbnfkblibfaaDoorFrmTorn
import Derived.Test.YtbhbbnfkblibfaaDoorXFrmx8
import Derived.Test.YtbhbbnfkblibfaaDoorXFrmx11
namespace Go.Proofs.YtbhbbnfkblibfaaDoor
open Go.RowKit Go.Proofs.YtbhbbnfkblibfaaDoorW.PrintWords Go.Proofs.YtbhbbnfkblibfaaDoorW.PrintMore Go.Proofs.YtbhbbnfkblibfaaDoor.XFrm Go.Proofs.YtbhbbnfkblibfaaDoor.Num Go.Proofs.YtbhbbnfkblibfaaDoor.Frm
set_option linter.unusedVariables false
set_option linter.unusedSimpArgs false
theorem parts_l0 (s : List UInt8) (hs : s.length ≤ 2000) (fs : List (Nat × List UInt8)) (hg : good fs) (hl : (frs fs).length ≤ 2000) (hfl : fs.length ≤ 2000) (hp : s.take (frs fs).length = frs fs) (hle : (frs fs).length ≤ s.length) :
    ∀ (rest : List (Nat × List UInt8)) (i k : Nat), fs.drop i = rest → i ≤ fs.length → rest.length + 60 ≤ k → postroomlaw6_FrameParts.l0 k (bs s) (fs.map toS) ((frs fs).length : Int) (bs (frs (fs.take i))) (i : Int) = some true := by
  intro rest
  induction rest with
  | nil =>
    intro i k hd hi hk
    obtain ⟨k, rfl⟩ : ∃ q, k = q + 1 := ⟨k - 1, by omega⟩
    have hil : fs.length ≤ i := drop_nil hd
    rw [postroomlaw6_FrameParts.l0, List.length_map, if_neg (nlt (Nat.not_lt.2 hil)), if_pos (y0 _), bs_size, if_pos (yle hle), Int.toNat_natCast, bs_take, bs_toList, bs_toList, hp, List.take_of_length_le hil, beq_self_eq_true]
  | cons x rest IH =>
    obtain ⟨a, b⟩ := x
    intro i k hd hi hk
    rw [List.length_cons] at hk
    obtain ⟨k, rfl⟩ : ∃ q, k = q + 1 := ⟨k - 1, by omega⟩
    have hk2 : rest.length + 60 ≤ k := by omega
    have hk3 : 50 ≤ k := by omega
    obtain ⟨hlt, hxi, hdr, hlen⟩ := drop_at hd
    have hgi := hg (a, b) (by rw [← hxi]; exact List.getElem_mem _)
    have hb : b.length ≤ 2000 := hgi.2
    have ha : a < 18446744073709551616 := hgi.1
    have hfl2 : (fr a b).length ≤ 2024 := fr_le ha hb
    have hm2 : frs (fs.take (i + 1)) = frs (fs.take i) ++ fr a b := by
      rw [List.take_succ_eq_append_getElem hlt, hxi, frs_app]
      simp only [frs, List.append_nil]
    have hle1 : (frs (fs.take i)).length ≤ 2000 := by
      have h := frs_app (fs.take i) (fs.drop i)
      rw [List.take_append_drop] at h
      have := congrArg List.length h
      rw [List.length_append] at this
      exact Nat.le_trans (Nat.le_add_right _ _) (Nat.le_trans (Nat.le_of_eq this.symm) hl)
    have hpf : putF a b = (bs (fr a b), 0) := by unfold putF; rw [if_neg (Nat.not_lt.2 hb)]
    have ew2 : wrap64 ((i : Int) + 1) = ((i + 1 : Nat) : Int) := w_succ (Nat.le_trans hi (Nat.le_trans hfl (by decide)))
    have hsz : (frs (fs.take i)).length + (fr a b).length ≤ 9223372036854775807 := Nat.le_trans (Nat.add_le_add hle1 hfl2) (by decide)
    have e0 : (toS (a, b)).f0 = (a : Int) := rfl
    have e1 : (toS (a, b)).f1 = bs b := rfl
    have e2 : (toS (a, b)).f2 = ((fr a b).length : Int) := rfl
    rw [postroomlaw6_FrameParts.l0, List.length_map, if_pos (ylt hlt), if_pos (y0 i), rd_Sx fs i hlt, hxi, e0, e1, e2, fput_f ha (Nat.le_trans hb (by decide)) (Nat.le_trans (by decide) hk3), bsome, hpf]
    simp only [bs_size]
    rw [if_pos trivial, if_pos trivial, if_pos hsz, bs_app, ← hm2, ew2]
    exact IH (i + 1) k hdr hlt hk2
theorem Pure.FrameParts : postroomlaw6_FrameParts.Pure := by
  intro a0 l a2 h0 hl1 hl2 hw h2
  obtain ⟨g0, g1⟩ := wf_u64 h0
  obtain ⟨a, rfl⟩ : ∃ n : Nat, a0 = (n : Int) := ⟨_, (Int.toNat_of_nonneg g0).symm⟩
  have ha : a < 18446744073709551616 := by omega
  obtain ⟨s, rfl⟩ := bs_list a2
  rw [bs_size] at h2
  refine ⟨100300, ?_⟩
  unfold postroomlaw6_FrameParts.f
  rw [shown_f (by decide), bsome, if_pos rfl, bs_size]
  by_cases hs : 2000 < s.length
  · rw [postroomlaw6_FrameParts.j0, if_pos (by rw [decide_eq_true_eq]; exact ylt hs)]
  · have hlen := rowL_len a l
    have hsh := rowL_short a l 0
    have hg := (rowL_good a l 0).1
    have hrow : ∀ k, 20222 ≤ k → postroomlaw6_row.f k (a : Int) l = some ((rowL a 0 l).map toR, bs (frs (rowL a 0 l))) := fun k hk => row_f ha hl1 hw hk
    generalize rowL a 0 l = fs at hlen hsh hg hrow
    clear hl1 hl2 hw h0 g0 g1 h2
    have hs2 : s.length ≤ 2000 := Nat.le_of_not_lt hs
    have hS : (frs fs).length ≤ 1480 := by omega
    have hscan := scanA_frs fs s hg
    have hsl : (scanA s).length ≤ 2000 := Nat.le_trans (scanA_len s) hs2
    have hfl : (frs (scanA s)).length ≤ s.length := frs_scan_le s
    have hfl2 : (frs (scanA s)).length ≤ 2000 := Nat.le_trans hfl hs2
    obtain ⟨hgs, r, hsr, _⟩ := scanA_is s
    have htk : s.take (frs (scanA s)).length = frs (scanA s) := by
      conv => lhs; rw [hsr]
      rw [← hsr]
      conv => lhs; arg 2; rw [hsr]
      exact List.take_left' rfl
    have hlen2 : (frs (scanA (frs fs ++ s))).length = (frs (scanA s)).length + (frs fs).length := by rw [hscan, frs_app, List.length_append, Nat.add_comm]
    have ew : wrap64 (((frs (scanA s)).length : Int) + ((frs fs).length : Int)) = ((frs (scanA s)).length + (frs fs).length : Nat) := w_add (Nat.le_trans hfl2 (by decide)) (Nat.le_trans hS (by decide))
    have hsz : (frs fs).length + s.length ≤ 9223372036854775807 := Nat.le_trans (Nat.add_le_add hS hs2) (by decide)
    have hfs : (fs ++ scanA s).length ≤ 2020 := by rw [List.length_append]; exact Nat.add_le_add hlen hsl
    have hnn : ¬ ((frs (scanA s)).length : Int) < 0 := by have := y0 (frs (scanA s)).length; exact Int.not_lt.2 this
    rw [postroomlaw6_FrameParts.j0, if_neg (by rw [decide_eq_true_eq]; exact nlt hs), hrow _ (by decide), bsome, scan_f (Nat.le_trans hs2 (by decide)) (by decide), bsome]
    simp only
    rw [bs_size, bs_size, if_pos hsz, bs_app, scan_f (by rw [List.length_append]; exact Nat.le_trans (Nat.add_le_add hS hs2) (by decide)) (by decide), bsome]
    simp only
    rw [if_neg hnn, if_neg (Int.not_lt.2 (yle hfl)), hlen2, ew, if_pos rfl, hscan, as_f (Nat.le_trans hfs (by decide)) (Nat.le_trans (Nat.succ_le_succ hfs) (by decide)), bsome, bsome, List.nil_append]
    rw [if_pos (by rw [List.length_map, List.length_nil, Nat.zero_add]; exact Nat.lt_of_le_of_lt hlen (by decide)), bsome, as_f (Nat.le_trans hsl (by decide)) (Nat.le_trans (Nat.succ_le_succ hsl) (by decide)), bsome, if_pos (by rw [List.length_map, List.length_map]; exact Nat.lt_of_le_of_lt (Nat.add_le_add hlen hsl) (by decide)), same_f (List.map_append) (by rw [List.length_map]; exact Nat.le_trans hfs (by decide)) (by rw [List.length_map]; exact Nat.le_trans (Nat.succ_le_succ hfs) (by decide)), bsome]
    rw [postroomlaw6_FrameParts.j1, if_neg (by decide)]
    exact parts_l0 s hs2 (scanA s) hgs hfl2 hsl htk hfl (scanA s) 0 100298 rfl (Nat.zero_le _) (Nat.le_trans (Nat.add_le_add_right hsl 60) (by decide))
end Go.Proofs.YtbhbbnfkblibfaaDoor
