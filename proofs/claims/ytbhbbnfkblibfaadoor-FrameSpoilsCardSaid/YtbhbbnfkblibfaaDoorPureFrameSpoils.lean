/- FrameSpoils: a frame of whose sum, or body, one bit is turned is none. Conditions: the law's own. -/
import Derived.Test.YtbhbbnfkblibfaaDoorFrmTorn
import Derived.Test.YtbhbbnfkblibfaaDoorFrmSpoil
import Derived.Test.YtbhbbnfkblibfaaDoorXFrmSpoil
import Derived.Test.YtbhbbnfkblibfaaDoorXFrmx8
namespace Go.Proofs.YtbhbbnfkblibfaaDoor
open Go.RowKit Go.Proofs.YtbhbbnfkblibfaaDoorW.PrintWords Go.Proofs.YtbhbbnfkblibfaaDoorW.PrintMore Go.Proofs.YtbhbbnfkblibfaaDoor.XFrm Go.Proofs.YtbhbbnfkblibfaaDoor.Num Go.Proofs.YtbhbbnfkblibfaaDoor.Frm
set_option linter.unusedVariables false
set_option linter.unusedSimpArgs false
theorem bits_xor_u8 (a b : Nat) (ha : a < 256) (hb : b < 256) : Go.bits .xor .u8 (a : Int) (b : Int) = ((a ^^^ b : Nat) : Int) := by
  have hx : a ^^^ b < 2 ^ 8 := Nat.xor_lt_two_pow (by omega) (by omega)
  have h1 : (BitVec.ofInt 8 (a : Int)).toNat = a := by
    rw [BitVec.ofInt_natCast, BitVec.toNat_ofNat]; exact Nat.mod_eq_of_lt (by omega)
  have h2 : (BitVec.ofInt 8 (b : Int)).toNat = b := by
    rw [BitVec.ofInt_natCast, BitVec.toNat_ofNat]; exact Nat.mod_eq_of_lt (by omega)
  show IntKind.u8.wrap ((BitVec.ofInt 8 (a : Int) ^^^ BitVec.ofInt 8 (b : Int)).toNat : Int) = _
  rw [BitVec.toNat_xor, h1, h2]
  simp [IntKind.wrap, IntKind.bits, IntKind.signed]
  omega
theorem shl_u8 : ∀ j : Nat, j < 8 → shl .u8 1 (j : Int) = ((2 ^ j : Nat) : Int) := by decide
theorem turn_bit (c : UInt8) (j : Nat) (hj : j < 8) : ∃ d : UInt8, d ≠ c ∧ UInt8.ofNat (Go.bits .xor .u8 ((c.toNat : Nat) : Int) (shl .u8 1 (j : Int))).toNat = d := by
  have h2 : (2 : Nat) ^ j < 256 := by
    have : ∀ i : Nat, i < 8 → (2 : Nat) ^ i < 256 := by decide
    exact this j hj
  have hp : (2 : Nat) ^ j ≠ 0 := by
    have : ∀ i : Nat, i < 8 → (2 : Nat) ^ i ≠ 0 := by decide
    exact this j hj
  have hc := c.toNat_lt
  rw [shl_u8 j hj, bits_xor_u8 _ _ hc h2, Int.toNat_natCast]
  refine ⟨_, fun e => ?_, rfl⟩
  have hx : c.toNat ^^^ 2 ^ j < 256 := Nat.xor_lt_two_pow (n := 8) hc h2
  have h1 := congrArg UInt8.toNat e
  rw [UInt8.toNat_ofNat'] at h1
  have h3 : c.toNat ^^^ 2 ^ j = c.toNat ^^^ 0 := by
    rw [Nat.xor_zero]
    have : (c.toNat ^^^ 2 ^ j) % 2 ^ 8 = c.toNat ^^^ 2 ^ j := Nat.mod_eq_of_lt hx
    rw [this] at h1
    exact h1
  exact hp (Crc.xl h3)
theorem bytes_set (s : List UInt8) (p : Nat) (z : Int) : strOfNums ((bytesOf (bs s)).set p z) = bs (s.set p (UInt8.ofNat z.toNat)) := by
  rw [strOfNums_bs, List.map_set]
  congr 2
  show ((bs s).data.toList.map fun b => (b.toNat : Int)).map (fun n => UInt8.ofNat n.toNat) = s
  rw [List.map_map]
  have : (bs s).data.toList = s := rfl
  rw [this]
  conv => rhs; rw [← List.map_id s]
  refine List.map_congr_left (fun c _ => ?_)
  simp
theorem bytes_drop (s : List UInt8) (p m : Nat) (z : Int) : strOfNums (((bytesOf (bs s)).set p z).drop m) = bs ((s.set p (UInt8.ofNat z.toNat)).drop m) := by
  have h := bytes_set s p z
  rw [strOfNums_bs] at h
  rw [strOfNums_bs, List.map_drop, bs_inj h]
theorem bytes_len (s : List UInt8) : (bytesOf (bs s)).length = s.length := by rw [bytesOf_length, bs_size]
theorem bytes_rd (s : List UInt8) (i : Nat) (h : i < s.length) : rd (bytesOf (bs s)) (i : Int) = ((s[i].toNat : Nat) : Int) := by rw [rd_bytesOf, bt_bs s i h]
theorem w_sub {A B : Nat} (h : B ≤ A) (hA : A ≤ 1000000) : wrap64 ((A : Int) - (B : Int)) = ((A - B : Nat) : Int) := by rw [w64_id (by omega) (by omega)]; omega
theorem w_mul8 {A : Nat} (hA : A ≤ 100000) : wrap64 (8 * (A : Int)) = ((8 * A : Nat) : Int) := by rw [w64_id (by omega) (by omega)]; omega
theorem w_nat {A : Nat} (hA : A ≤ 1000000) : wrap64 (A : Int) = (A : Int) := w64_id (by omega) (by omega)
theorem u_nat {A : Nat} (hA : A ≤ 1000000) : IntKind.u64.wrap (A : Int) = (A : Int) := u64_id (by omega) (by omega)
theorem spoil_end (fs : List (Nat × List UInt8)) (hg : good fs) (hl : fs.length ≤ 20) (hS : (frs fs).length ≤ 2000) (kk : Nat) (hk : kk < fs.length) (x3 : Int) (h3 : -9223372036854775808 ≤ x3 ∧ x3 < 9223372036854775808) (k m : Nat) (hm : m = (frs (fs.take kk)).length) (hkb : 100100 ≤ k) :
    postroomlaw6_FrameSpoils.l0 (k + 1) x3 (fs.map toR) (bs (frs fs)) (kk : Int) (m : Int) (kk : Int) = some true := by
  obtain ⟨a, b, hx⟩ : ∃ a b, fs[kk] = (a, b) := ⟨_, _, rfl⟩
  have hgi := hg (a, b) (by rw [← hx]; exact List.getElem_mem _)
  have hb : b.length ≤ 2000 := hgi.2
  have hF : (fr a b).length ≤ 2024 := fr_le hgi.1 hgi.2
  have hF6 : b.length + 6 ≤ (fr a b).length := fr_ge a b
  have hsum : m + (fr a b).length ≤ (frs fs).length := by
    have hfs : fs = fs.take kk ++ (a, b) :: fs.drop (kk + 1) := by rw [← hx, ← List.drop_eq_getElem_cons hk, List.take_append_drop]
    have h1 : (frs fs).length = (frs (fs.take kk)).length + ((fr a b).length + (frs (fs.drop (kk + 1))).length) := by
      conv => lhs; rw [hfs]
      rw [frs_app, List.length_append]
      simp only [frs, List.length_append]
    rw [h1, hm]
    exact Nat.add_le_add_left (Nat.le_add_right _ _) _
  have hml : m ≤ (frs fs).length := Nat.le_trans (Nat.le_add_right _ _) hsum
  have hm2 : m ≤ 2000 := Nat.le_trans hml hS
  obtain ⟨t, ht, hpick⟩ := pickN h3 (8 * (b.length + 4)) (by omega) (by omega)
  have ht8 : t / 8 < b.length + 4 := by clear hpick hg hx hm hsum hml; omega
  have hq : b.length + 4 ≤ (fr a b).length := by omega
  have hpos : m + ((fr a b).length - (b.length + 4)) + t / 8 < (frs fs).length := by clear hpick hg hx hm; omega
  have hj : t % 8 < 8 := Nat.mod_lt _ (by decide)
  obtain ⟨c, hcne, hc⟩ := turn_bit ((frs fs)[m + ((fr a b).length - (b.length + 4)) + t / 8]) (t % 8) hj
  obtain ⟨hscan, hnone⟩ := spoil_set hg hk hx hm ht8 hpos (fun e => hcne e.symm)
  have ef1 : ((toR (a, b)).f1.size : Int) = (b.length : Int) := by show (((bs b).size : Nat) : Int) = _; rw [bs_size]
  have ef2 : (toR (a, b)).f2 = ((fr a b).length : Int) := rfl
  have w1 : wrap64 ((b.length : Int) + 4) = ((b.length + 4 : Nat) : Int) := w_add (n := 4) (Nat.le_trans hb (by decide)) (by decide)
  have w8 : wrap64 (8 * ((b.length + 4 : Nat) : Int)) = ((8 * (b.length + 4) : Nat) : Int) := w_mul8 (Nat.le_trans (Nat.add_le_add_right hb 4) (by decide))
  have wm : wrap64 ((m : Int) + ((fr a b).length : Int)) = ((m + (fr a b).length : Nat) : Int) := w_add (Nat.le_trans hm2 (by decide)) (Nat.le_trans hF (by decide))
  have wsub : wrap64 (((m + (fr a b).length : Nat) : Int) - ((b.length + 4 : Nat) : Int)) = ((m + ((fr a b).length - (b.length + 4)) : Nat) : Int) := by
    rw [w_sub (Nat.le_trans hq (Nat.le_add_left _ _)) (Nat.le_trans (Nat.add_le_add hm2 hF) (by decide)), Nat.add_sub_assoc hq]
  have etd : Int.tdiv (t : Int) 8 = ((t / 8 : Nat) : Int) := rfl
  have etm : Int.tmod (t : Int) 8 = ((t % 8 : Nat) : Int) := rfl
  have wt : wrap64 ((t / 8 : Nat) : Int) = ((t / 8 : Nat) : Int) := w_nat (Nat.le_trans (Nat.le_of_lt ht8) (Nat.le_trans (Nat.add_le_add_right hb 4) (by decide)))
  have wpos : wrap64 (((m + ((fr a b).length - (b.length + 4)) : Nat) : Int) + ((t / 8 : Nat) : Int)) = ((m + ((fr a b).length - (b.length + 4)) + t / 8 : Nat) : Int) := by
    refine w_add (m := m + ((fr a b).length - (b.length + 4))) (n := t / 8) ?_ ?_
    · exact Nat.le_trans (Nat.add_le_add hm2 (Nat.le_trans (Nat.sub_le _ _) hF)) (by decide)
    · exact Nat.le_trans (Nat.le_of_lt ht8) (Nat.le_trans (Nat.add_le_add_right hb 4) (by decide))
  have wm8 : IntKind.u64.wrap ((t % 8 : Nat) : Int) = ((t % 8 : Nat) : Int) := u_nat (Nat.le_trans (Nat.le_of_lt hj) (by decide))
  generalize hpn : m + ((fr a b).length - (b.length + 4)) + t / 8 = pos at hpos hc hscan hnone wpos
  have hsetl : ((frs fs).set pos c).length ≤ 2000 := by rw [List.length_set]; exact hS
  have htk : (fs.take kk).length ≤ 20 := by rw [List.length_take]; exact Nat.le_trans (Nat.min_le_right _ _) hl
  have hf := first_f (k := k) (l := ((frs fs).set pos c).drop m) (by rw [List.length_drop]; exact Nat.le_trans (Nat.sub_le _ _) (Nat.le_trans hsetl (by decide))) (Nat.le_trans (by decide) hkb)
  rw [firstP_none hnone] at hf
  have hs := scan_f (k := k) (l := (frs fs).set pos c) (Nat.le_trans hsetl (by decide)) (Nat.le_trans (by decide) hkb)
  rw [hscan, ← hm] at hs
  rw [postroomlaw6_FrameSpoils.l0, if_neg (Int.lt_irrefl _), if_pos (y0 kk), List.length_map, if_pos (ylt hk), bsome, rd_R fs kk hk, hx, ef1, w1, w8, hpick, bsome, ef2, wm, wsub, etd, wt, wpos, if_pos (y0 pos), bytes_len, if_pos (ylt hpos), etm, wm8, if_pos (y0 _), bsome, Int.toNat_natCast, bytes_rd _ _ hpos, bytes_set, bytes_drop]
  rw [hc, hs, bsome, if_pos (y0 m), if_pos (yle hml), Int.toNat_natCast, hf, bsome, if_pos rfl]
  rw [as_f (Nat.le_trans htk (by decide)) (Nat.le_trans (Nat.succ_le_succ htk) (Nat.le_trans (by decide) hkb)), bsome, if_pos (yle (Nat.le_of_lt hk)), Int.toNat_natCast, same_f (List.map_take) (by rw [List.length_map]; exact Nat.le_trans htk (by decide)) (by rw [List.length_map]; exact Nat.le_trans (Nat.succ_le_succ htk) (Nat.le_trans (by decide) hkb)), bsome, if_pos rfl, beq_self_eq_true]
theorem spoil_l0 (fs : List (Nat × List UInt8)) (hg : good fs) (hl : fs.length ≤ 20) (hS : (frs fs).length ≤ 2000) (kk : Nat) (hk : kk < fs.length) (x3 : Int) (h3 : -9223372036854775808 ≤ x3 ∧ x3 < 9223372036854775808) :
    ∀ (d k i : Nat), i + d = kk → d + 100101 ≤ k → postroomlaw6_FrameSpoils.l0 k x3 (fs.map toR) (bs (frs fs)) (kk : Int) ((frs (fs.take i)).length : Int) (i : Int) = some true := by
  intro d
  induction d with
  | zero =>
    intro k i hi hkb
    obtain ⟨k, rfl⟩ : ∃ q, k = q + 1 := ⟨k - 1, by omega⟩
    have e : i = kk := hi
    subst e
    exact spoil_end fs hg hl hS i hk x3 h3 k _ rfl (by omega)
  | succ d IH =>
    intro k i hi hkb
    obtain ⟨k, rfl⟩ : ∃ q, k = q + 1 := ⟨k - 1, by omega⟩
    have hlt : i < kk := by omega
    have hlt2 : i < fs.length := Nat.lt_trans hlt hk
    obtain ⟨a, b, hx⟩ : ∃ a b, fs[i] = (a, b) := ⟨_, _, rfl⟩
    have hgi := hg (a, b) (by rw [← hx]; exact List.getElem_mem _)
    have hF : (fr a b).length ≤ 2024 := fr_le hgi.1 hgi.2
    have hm2 : (frs (fs.take (i + 1))).length = (frs (fs.take i)).length + (fr a b).length := by
      rw [List.take_succ_eq_append_getElem hlt2, hx, frs_app, List.length_append]
      simp only [frs, List.append_nil]
    have hm1 : (frs (fs.take i)).length ≤ 2000 := by
      have h := congrArg List.length (frs_app (fs.take i) (fs.drop i))
      rw [List.take_append_drop, List.length_append] at h
      exact Nat.le_trans (Nat.le_trans (Nat.le_add_right _ _) (Nat.le_of_eq h.symm)) hS
    have ef2 : (toR (a, b)).f2 = ((fr a b).length : Int) := rfl
    have wm : wrap64 (((frs (fs.take i)).length : Int) + ((fr a b).length : Int)) = ((frs (fs.take (i + 1))).length : Int) := by
      rw [w_add (Nat.le_trans hm1 (by decide)) (Nat.le_trans hF (by decide)), hm2]
    have wi : wrap64 ((i : Int) + 1) = ((i + 1 : Nat) : Int) := w_succ (Nat.le_trans (Nat.le_of_lt hlt2) (Nat.le_trans hl (by decide)))
    rw [postroomlaw6_FrameSpoils.l0, if_pos (ylt hlt), if_pos (y0 i), List.length_map, if_pos (ylt hlt2), rd_R fs i hlt2, hx, ef2, wm, wi]
    exact IH k (i + 1) (by omega) (by omega)
theorem Pure.FrameSpoils : postroomlaw6_FrameSpoils.Pure := by
  intro a0 l a2 a3 h0 hl1 hl2 hw h2 h3
  obtain ⟨g0, g1⟩ := wf_u64 h0
  obtain ⟨a, rfl⟩ : ∃ n : Nat, a0 = (n : Int) := ⟨_, (Int.toNat_of_nonneg g0).symm⟩
  have ha : a < 18446744073709551616 := by omega
  have hlen := rowL_len a l
  have hsh := rowL_short a l 0
  have hg := (rowL_good a l 0).1
  have hrow : ∀ k, 20222 ≤ k → postroomlaw6_row.f k (a : Int) l = some ((rowL a 0 l).map toR, bs (frs (rowL a 0 l))) := fun k hk => row_f ha hl1 hw hk
  have hne : l ≠ [] → 0 < (rowL a 0 l).length := fun h => by
    cases l with
    | nil => exact absurd rfl h
    | cons x r => rw [rowL, if_pos (by decide)]; exact Nat.succ_pos _
  refine ⟨100300, ?_⟩
  unfold postroomlaw6_FrameSpoils.f
  rw [shown_f (by decide), bsome, if_pos rfl]
  by_cases hz : l = []
  · subst hz
    have e : ((([] : List ByteArray).length : Int) == 0) = true := rfl
    rw [postroomlaw6_FrameSpoils.j0, e, if_pos rfl]
  · have hz2 : ((l.length : Int) == 0) = false := by
      rw [beq_eq_false_iff_ne]
      intro e
      have : l.length = 0 := by clear hl1 hl2 hsh hlen; omega
      exact hz (List.eq_nil_of_length_eq_zero this)
    have hpos := hne hz
    generalize rowL a 0 l = fs at hlen hsh hg hrow hpos
    have hS : (frs fs).length ≤ 2000 := by clear hl1 hl2; omega
    obtain ⟨t, ht, hp⟩ := pickN (wf_i64 h2) fs.length hpos (Nat.lt_of_le_of_lt hlen (by decide))
    rw [postroomlaw6_FrameSpoils.j0, hz2, if_neg (by decide), hrow _ (by decide), bsome]
    simp only [List.length_map]
    rw [hp, bsome]
    exact spoil_l0 fs hg hlen hS t ht a3 (wf_i64 h3) t 100299 0 (Nat.zero_add _) (Nat.le_trans (Nat.add_le_add_right (Nat.le_trans (Nat.le_of_lt ht) hlen) _) (by decide))
end Go.Proofs.YtbhbbnfkblibfaaDoor
