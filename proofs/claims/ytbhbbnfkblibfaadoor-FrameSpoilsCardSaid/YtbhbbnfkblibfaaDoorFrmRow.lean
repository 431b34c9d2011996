/- Scan, the document's Scan, Same, as, row come to the plain law. Conditions: those that each theorem names. -/
import Derived.Test.YtbhbbnfkblibfaaDoorFrmRef
import Derived.Test.YtbhbbnfkblibfaaDoorFrmGlue
import Derived.Test.YtbhbbnfkblibfaaDoorGFrameScan
import Derived.Test.YtbhbbnfkblibfaaDoorXFrmx0
import Derived.Test.YtbhbbnfkblibfaaDoorXFrmx5
import Derived.Test.YtbhbbnfkblibfaaDoorXFrmx7
import Derived.Test.YtbhbbnfkblibfaaDoorXFrmx8
namespace Go.Proofs.YtbhbbnfkblibfaaDoor.Frm
open Go.RowKit Go.Proofs.YtbhbbnfkblibfaaDoorW.PrintWords Go.Proofs.YtbhbbnfkblibfaaDoorW.PrintMore Go.Proofs.YtbhbbnfkblibfaaDoor.XFrm Go.Proofs.YtbhbbnfkblibfaaDoor.Num Go.Proofs.YtbhbbnfkblibfaaDoor.Crc
set_option linter.unusedVariables false
set_option linter.unusedSimpArgs false

abbrev R := S43
def toS (p : Nat × List UInt8) : XFrm.S := ⟨(p.1 : Int), bs p.2, ((fr p.1 p.2).length : Int)⟩
def toR (p : Nat × List UInt8) : R := ⟨(p.1 : Int), bs p.2, ((fr p.1 p.2).length : Int)⟩
theorem firstP_some {l : List UInt8} {n : Nat} {b r : List UInt8} (h : fst l = some (n, b, r)) : firstP l = ((n : Int), bs b, ((fr n b).length : Int), 0) := by unfold firstP; rw [h]
theorem firstP_none {l : List UInt8} (h : fst l = none) : firstP l = (0, bs [], 0, 2) := by unfold firstP; rw [h]
theorem scan_l0 : ∀ (d k : Nat) (l : List UInt8) (o : List XFrm.S) (n : Nat), l.length ≤ d → d + 60 ≤ k → l.length ≤ 100000 → o.length + l.length ≤ 200000 → n + l.length ≤ 1000000 →
    frame_Scan.l0 k (bs l) o (n : Int) = some (o ++ (scanA l).map toS, ((n + (frs (scanA l)).length : Nat) : Int))
  | d, k, l, o, n, hl, hk, hd, ho, hn => by
    obtain ⟨k, rfl⟩ : ∃ m, k = m + 1 := ⟨k - 1, by omega⟩
    rw [frame_Scan.l0, first_f (by omega) (by omega), bsome]
    cases h : fst l with
    | none =>
      rw [firstP_none h, scanA_none h]
      rw [if_neg (show ¬((0, bs [], 0, 2) : Int × ByteArray × Int × Int).2.2.2 = 0 by decide), List.map_nil, List.append_nil]
      rfl
    | some x =>
      obtain ⟨m, b, r⟩ := x
      obtain ⟨e, hm, hb⟩ := fst_some h
      have hlen : l.length = (fr m b).length + r.length := by rw [e, List.length_append]
      have hge := fr_ge m b
      match d, hl, hk, hd, ho, hn with
      | 0, hl, _, _, _, _ => omega
      | d + 1, hl, hk, hd, ho, hn =>
        have ex : (bs l).extract ((fr m b).length : Int).toNat (bs l).size = bs r := by
          rw [Int.toNat_natCast, bs_drop, e, List.drop_left' rfl]
        have ew : wrap64 ((n : Int) + ((fr m b).length : Int)) = ((n + (fr m b).length : Nat) : Int) := by rw [w64_id (by omega) (by omega)]; omega
        have ih := scan_l0 d k r (o ++ [toS (m, b)]) (n + (fr m b).length) (by omega) (by omega) (by omega) (by rw [List.length_append, List.length_singleton]; omega) (by rw [Nat.add_assoc, ← hlen]; exact hn)
        rw [firstP_some h, scanA_some h]
        show (if (0 : Int) = 0 then (if 0 ≤ ((fr m b).length : Int) then (if ((fr m b).length : Int) ≤ ((bs l).size : Int) then (if o.length < 4398046511104 then frame_Scan.l0 k ((bs l).extract ((fr m b).length : Int).toNat (bs l).size) (o ++ [toS (m, b)]) (wrap64 ((n : Int) + ((fr m b).length : Int))) else none) else none) else none) else _) = _
        rw [if_pos rfl, if_pos (by omega), if_pos (by rw [bs_size]; omega), if_pos (by omega), ex, ew]
        rw [ih]
        simp only [List.map_cons, frs, List.length_append, List.append_assoc, List.singleton_append]
        congr 2
        omega
theorem scan_f {k : Nat} {l : List UInt8} (hl : l.length ≤ 100000) (hk : 100060 ≤ k) : frame_Scan.f k (bs l) = some ((scanA l).map toS, ((frs (scanA l)).length : Int)) := by
  unfold frame_Scan.f
  have h := scan_l0 100000 k l [] 0 hl (by omega) hl (by simp; omega) (by omega)
  rw [List.nil_append, Nat.zero_add] at h
  exact h

theorem rscan_l0 (s : List UInt8) (hs : s.length ≤ 100000) : ∀ (d k : Nat) (l : List UInt8) (o : List R) (n : Nat), s.drop n = l → n ≤ s.length → l.length ≤ d → d + 20301 ≤ k → o.length + l.length ≤ 200000 →
    postroomref6_Scan.l0 k (bs s) o (n : Int) = some (o ++ (scanA l).map toR, ((n + (frs (scanA l)).length : Nat) : Int))
  | d, k, l, o, n, hsl, hn, hl, hk, ho => by
    obtain ⟨k, rfl⟩ : ∃ m, k = m + 1 := ⟨k - 1, by omega⟩
    have hln : l.length + n = s.length := by rw [← hsl, List.length_drop]; omega
    rw [postroomref6_Scan.l0, if_pos (by omega), if_pos (by rw [bs_size]; omega), Int.toNat_natCast, bs_drop, hsl, rfirst_f (by omega) (by omega), bsome]
    cases h : fst l with
    | none =>
      rw [firstP_none h, scanA_none h]
      rw [if_neg (show ¬((0, bs [], 0, 2) : Int × ByteArray × Int × Int).2.2.2 = 0 by decide), List.map_nil, List.append_nil]
      rfl
    | some x =>
      obtain ⟨m, b, r⟩ := x
      obtain ⟨e, hm, hb⟩ := fst_some h
      have hlen : l.length = (fr m b).length + r.length := by rw [e, List.length_append]
      have hge := fr_ge m b
      match d, hl, hk with
      | 0, hl, _ => omega
      | d + 1, hl, hk =>
        have ew : wrap64 ((n : Int) + ((fr m b).length : Int)) = ((n + (fr m b).length : Nat) : Int) := by rw [w64_id (by omega) (by omega)]; omega
        have ed : s.drop (n + (fr m b).length) = r := by rw [← List.drop_drop, hsl, e, List.drop_left' rfl]
        have ih := rscan_l0 s hs d k r (o ++ [toR (m, b)]) (n + (fr m b).length) ed (by omega) (by omega) (by omega) (by rw [List.length_append, List.length_singleton]; omega)
        rw [firstP_some h, scanA_some h]
        show (if (0 : Int) = 0 then (if o.length < 4398046511104 then postroomref6_Scan.l0 k (bs s) (o ++ [toR (m, b)]) (wrap64 ((n : Int) + ((fr m b).length : Int))) else none) else _) = _
        rw [if_pos rfl, if_pos (by omega), ew, ih]
        simp only [List.map_cons, frs, List.length_append, List.append_assoc, List.singleton_append]
        congr 2
        omega
theorem rscan_f {k : Nat} {l : List UInt8} (hl : l.length ≤ 100000) (hk : 120301 ≤ k) : postroomref6_Scan.f k (bs l) = some ((scanA l).map toR, ((frs (scanA l)).length : Int)) := by
  unfold postroomref6_Scan.f
  have h := rscan_l0 l hl 100000 k l [] 0 rfl (Nat.zero_le _) hl (by omega) (by simp; omega)
  rw [List.nil_append, Nat.zero_add] at h
  exact h
theorem same_l0 (x : List R) (hx : x.length ≤ 1000000) : ∀ (d k i : Nat), i + d = x.length → d + 1 ≤ k → postroomref6_Same.l0 k x x (i : Int) = some true
  | 0, k, i, hi, hk => by
    obtain ⟨k, rfl⟩ : ∃ m, k = m + 1 := ⟨k - 1, by omega⟩
    rw [postroomref6_Same.l0, if_neg (by omega)]
  | d + 1, k, i, hi, hk => by
    obtain ⟨k, rfl⟩ : ∃ m, k = m + 1 := ⟨k - 1, by omega⟩
    have ew : wrap64 ((i : Int) + 1) = ((i + 1 : Nat) : Int) := by rw [w64_id (by omega) (by omega)]; omega
    rw [postroomref6_Same.l0, if_pos (by omega), if_pos (by omega), if_pos (by omega), if_neg (by simp), ew]
    exact same_l0 x hx d k (i + 1) (by omega) (by omega)
theorem same_f {k : Nat} {x y : List R} (h : x = y) (hx : x.length ≤ 1000000) (hk : x.length + 1 ≤ k) : postroomref6_Same.f k x y = some true := by
  subst h
  unfold postroomref6_Same.f
  rw [if_pos rfl]
  exact same_l0 x hx x.length k 0 (by omega) hk
theorem as_l0 (x : List (Nat × List UInt8)) (hx : x.length ≤ 1000000) : ∀ (d k i : Nat), i + d = x.length → d + 1 ≤ k → postroomlaw6_as.l0 k (x.map toS) ((x.take i).map toR) (i : Int) = some (x.map toR)
  | 0, k, i, hi, hk => by
    obtain ⟨k, rfl⟩ : ∃ m, k = m + 1 := ⟨k - 1, by omega⟩
    rw [postroomlaw6_as.l0, if_neg (by rw [List.length_map]; omega), List.take_of_length_le (by omega)]
  | d + 1, k, i, hi, hk => by
    obtain ⟨k, rfl⟩ : ∃ m, k = m + 1 := ⟨k - 1, by omega⟩
    have hlt : i < x.length := by omega
    have ew : wrap64 ((i : Int) + 1) = ((i + 1 : Nat) : Int) := by rw [w64_id (by omega) (by omega)]; omega
    have er : rd_T28 (x.map toS) (i : Int) = toS x[i] := by
      unfold rd_T28
      rw [Int.toNat_natCast, List.getD_eq_getElem?_getD, List.getElem?_map, List.getElem?_eq_getElem hlt]
      rfl
    have et : (x.take i).map toR ++ [(⟨(toS x[i]).f0, (toS x[i]).f1, (toS x[i]).f2⟩ : R)] = (x.take (i + 1)).map toR := by
      rw [List.take_succ_eq_append_getElem hlt, List.map_append]; rfl
    rw [postroomlaw6_as.l0, if_pos (by rw [List.length_map]; omega), if_pos (by omega), if_pos (by rw [List.length_map, List.length_take]; omega), er, et, ew]
    exact as_l0 x hx d k (i + 1) (by omega) (by omega)
theorem as_f {k : Nat} {x : List (Nat × List UInt8)} (hx : x.length ≤ 1000000) (hk : x.length + 1 ≤ k) : postroomlaw6_as.f k (x.map toS) = some (x.map toR) := as_l0 x hx x.length k 0 (by omega) hk
theorem frs_len_ge : ∀ fs : List (Nat × List UInt8), fs.length ≤ (frs fs).length
  | [] => Nat.le_refl _
  | (n, b) :: fs => by have := frs_len_ge fs; have := fr_ge n b; simp only [frs, List.length_append, List.length_cons]; omega
theorem scanA_len (l : List UInt8) : (scanA l).length ≤ l.length := Nat.le_trans (frs_len_ge _) (frs_scan_le l)

/-! ### row -/
def rowL (a : Nat) : Nat → List ByteArray → List (Nat × List UInt8)
  | _, [] => []
  | i, x :: l => if i < 20 then ((a + i) % 18446744073709551616, (ls x).take 50) :: rowL a (i + 1) l else []
theorem rowL_good (a : Nat) : ∀ (l : List ByteArray) (i : Nat), good (rowL a i l) ∧ (rowL a i l).length + i ≤ mx 20 i
  | [], i => ⟨fun f hf => by simp [rowL] at hf, by unfold mx; simp only [rowL, List.length_nil]; omega⟩
  | x :: l, i => by
    obtain ⟨h1, h2⟩ := rowL_good a l (i + 1)
    unfold rowL
    split
    · refine ⟨fun f hf => ?_, by rw [List.length_cons]; unfold mx at h2 ⊢; omega⟩
      rcases List.mem_cons.1 hf with rfl | hf
      · exact ⟨Nat.mod_lt _ (by decide), by rw [List.length_take]; omega⟩
      · exact h1 f hf
    · exact ⟨fun f hf => by simp at hf, by unfold mx; simp only [List.length_nil]; omega⟩
theorem rowL_len (a : Nat) (l : List ByteArray) : (rowL a 0 l).length ≤ 20 := by
  have := (rowL_good a l 0).2; unfold mx at this; omega
theorem fr_short {n : Nat} {b : List UInt8} (hn : n < 18446744073709551616) (hb : b.length ≤ 50) : (fr n b).length ≤ 74 := by
  have := enc_len10 hn; have := enc_len10 (n := b.length) (by omega); rw [fr_len]; omega
theorem rowL_short (a : Nat) : ∀ (l : List ByteArray) (i : Nat), (frs (rowL a i l)).length ≤ 74 * (rowL a i l).length
  | [], i => by simp [rowL, frs]
  | x :: l, i => by
    have ih := rowL_short a l (i + 1)
    unfold rowL
    split
    · have := fr_short (n := (a + i) % 18446744073709551616) (b := (ls x).take 50) (Nat.mod_lt _ (by decide)) (by rw [List.length_take]; omega)
      simp only [frs, List.length_append, List.length_cons]
      omega
    · simp [frs]
theorem row_l0 (a : Nat) (ha : a < 18446744073709551616) (l : List ByteArray) (hl : l.length ≤ maxLen) (hw : ∀ x ∈ l, x.size ≤ maxLen)  (rest : List ByteArray) : ∀ (i k : Nat) (pre : List (Nat × List UInt8)), l.drop i = rest → i ≤ l.length → i ≤ 20 → (20 - i) + 20202 ≤ k → pre.length ≤ i → (frs pre).length ≤ 74 * i →
    postroomlaw6_row.l0 k (a : Int) l (pre.map toR) (bs (frs pre)) (i : Int) = some ((pre ++ rowL a i rest).map toR, bs (frs (pre ++ rowL a i rest))) := by
  induction rest with
  | nil =>
    intro i k pre hd hi h20 hk hp hf
    obtain ⟨k, rfl⟩ : ∃ m, k = m + 1 := ⟨k - 1, by omega⟩
    have : l.length ≤ i := by
      have := congrArg List.length hd
      rw [List.length_drop, List.length_nil] at this; omega
    rw [postroomlaw6_row.l0, if_neg (by omega)]
    simp only [rowL, List.append_nil]
  | cons x rest IH =>
    intro i k pre hd hi h20 hk hp hf
    obtain ⟨k, rfl⟩ : ∃ m, k = m + 1 := ⟨k - 1, by omega⟩
    have hlen : l.length = i + (rest.length + 1) := by
      have := congrArg List.length hd
      rw [List.length_drop, List.length_cons] at this; omega
    have hx : l[i]? = some x := by
      have := congrArg (fun z => z[0]?) hd
      simpa using this
    have hdr : l.drop (i + 1) = rest := by rw [← List.drop_drop, hd]; rfl
    have hmem : x ∈ l := List.mem_of_getElem? hx
    have hsz := hw x hmem
    simp only [maxLen] at hsz hl
    have er : rdOf ByteArray.empty l (i : Int) = x := by
      unfold rdOf
      rw [Int.toNat_natCast, List.getD_eq_getElem?_getD, hx]; rfl
    obtain ⟨b, rfl⟩ := bs_list x
    rw [bs_size] at hsz
    have em : mn (((bs b).size : Nat) : Int) 50 = ((min b.length 50 : Nat) : Int) := by rw [bs_size]; unfold mn; omega
    have ex : (bs b).extract 0 (min b.length 50) = bs (b.take 50) := by
      rw [bs_take]
      congr 1
      rcases Nat.le_total b.length 50 with h | h
      · rw [Nat.min_eq_left h, List.take_of_length_le (Nat.le_refl _), List.take_of_length_le h]
      · rw [Nat.min_eq_right h]
    have hil : (i : Int) < (l.length : Int) := by omega
    have hi0 : (0 : Int) ≤ (i : Int) := by omega
    have hk2 : 20200 ≤ k := by omega
    have hle : (0 : Int) ≤ ((min b.length 50 : Nat) : Int) := by omega
    have hle2 : ((min b.length 50 : Nat) : Int) ≤ (((bs b).size : Nat) : Int) := by rw [bs_size]; omega
    have h50 : (b.take 50).length ≤ 50 := by rw [List.length_take]; omega
    have h51 : (b.take 50).length ≤ 140737488351232 := by omega
    have hp2 : (pre.map toR).length < 4398046511104 := by rw [List.length_map]; omega
    rw [postroomlaw6_row.l0, if_pos hil]
    by_cases h : i < 20
    · have e1 : IntKind.u64.wrap ((a : Int) + IntKind.u64.wrap (i : Int)) = (((a + i) % 18446744073709551616 : Nat) : Int) := by
        rw [u64_id (x := (i : Int)) (by omega) (by omega), u64_wrap]; omega
      have hmod : (a + i) % 18446744073709551616 < 18446744073709551616 := Nat.mod_lt _ (by decide)
      have eL : rowL a i (bs b :: rest) = ((a + i) % 18446744073709551616, b.take 50) :: rowL a (i + 1) rest := by
        rw [rowL, if_pos h, ls_bs]
      generalize (a + i) % 18446744073709551616 = m at e1 hmod eL
      have h20i : (i : Int) < 20 := by omega
      have h20n : i + 1 ≤ 20 := h
      have hi1 : i + 1 ≤ l.length := by omega
      have hk3 : (20 - (i + 1)) + 20202 ≤ k := by omega
      have hfr := fr_short hmod h50
      generalize hfm : fr m (b.take 50) = F at hfr
      have hpf : putF m (b.take 50) = (bs F, 0) := by
        unfold putF; rw [if_neg (by omega), hfm]
      have ew : wrap64 ((i : Int) + 1) = ((i + 1 : Nat) : Int) := by rw [w64_id (by omega) (by omega)]; omega
      have hfp : (frs pre).length + F.length ≤ 74 * (i + 1) := Nat.le_trans (Nat.add_le_add hf hfr) (Nat.le_of_eq (by rw [Nat.mul_succ]))
      have hsz2 : (frs pre).length + F.length ≤ 9223372036854775807 := Nat.le_trans hfp (Nat.le_trans (Nat.mul_le_mul_left 74 h20n) (by decide))
      rw [if_pos h20i, if_pos hi0, er, em, if_pos hle, if_pos hle2, Int.toNat_natCast, e1, ex, rfput_f hmod h51 hk2, bsome, hpf]
      have e3 : frs (pre ++ [(m, b.take 50)]) = frs pre ++ F := by
        rw [frs_app]; simp only [frs, List.append_nil]; rw [hfm]
      have ih := IH (i + 1) k (pre ++ [(m, b.take 50)]) hdr hi1 h20n hk3 (by rw [List.length_append, List.length_singleton]; exact Nat.succ_le_succ hp) (by rw [e3, List.length_append]; exact hfp)
      rw [if_pos hp2, if_pos (by rw [bs_size]; exact hsz2)]
      simp only [bs_app, bs_size]
      have e2 : pre.map toR ++ [(⟨(m : Int), bs (b.take 50), (F.length : Int)⟩ : R)] = (pre ++ [(m, b.take 50)]).map toR := by
        rw [List.map_append, ← hfm]; rfl
      rw [e2, ← e3, ew, ih, eL, List.append_assoc, List.singleton_append]
    · have h20i : ¬ (i : Int) < 20 := by omega
      rw [if_neg h20i]
      have eL : rowL a i (bs b :: rest) = [] := by rw [rowL, if_neg h]
      rw [eL, List.append_nil]
theorem row_f {k a : Nat} {l : List ByteArray} (ha : a < 18446744073709551616) (hl : l.length ≤ maxLen) (hw : ∀ x ∈ l, x.size ≤ maxLen) (hk : 20222 ≤ k) : postroomlaw6_row.f k (a : Int) l = some ((rowL a 0 l).map toR, bs (frs (rowL a 0 l))) :=
  row_l0 a ha l hl hw l 0 k [] rfl (Nat.zero_le _) (by omega) (by omega) (Nat.le_refl _) (Nat.le_refl _)
end Go.Proofs.YtbhbbnfkblibfaaDoor.Frm
