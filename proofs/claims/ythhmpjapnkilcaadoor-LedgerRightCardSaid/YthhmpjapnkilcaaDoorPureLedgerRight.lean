/- LedgerRight: with one number of a destination changed that must hang together with others a ledger is not right. Conditions: the law's own. -/
import Derived.Test.YthhmpjapnkilcaaDoorLdgMore
import Derived.Test.YthhmpjapnkilcaaDoorXLdgP1
import Derived.Test.YthhmpjapnkilcaaDoorXLdgP4
import Derived.Test.YthhmpjapnkilcaaDoorXLdgP5
import Derived.Test.YthhmpjapnkilcaaDoorXLdgx32
import Derived.Test.YthhmpjapnkilcaaDoorXLdgx33
namespace Go.Proofs.YthhmpjapnkilcaaDoor.Ldg
open Go.Proofs.YthhmpjapnkilcaaDoorW.PrintWords hiding encs
open Go.RowKit Go.Proofs.YthhmpjapnkilcaaDoorW.PrintLast Go.Proofs.YthhmpjapnkilcaaDoorW.PrintMore Go.Proofs.YthhmpjapnkilcaaDoor.Num Go.Proofs.YthhmpjapnkilcaaDoor.XLdg
set_option linter.unusedVariables false
set_option linter.unusedSimpArgs false
theorem rdD (l : List D) (i : Nat) (h : i < l.length) : rd_T37 l (i : Int) = l[i] := by
 unfold rd_T37; rw [Int.toNat_natCast, List.getD_eq_getElem?_getD, List.getElem?_eq_getElem h]; rfl
/-- Dest.right, of a destination's parts. -/
abbrev dRight (k : Nat) (d : D) (f n : Int) (L : List D) : Option Bool := ledger_Dest_right.f k d.f0 d.f1 d.f2 d.f3 d.f4 d.f5 d.f6 f n L
theorem right_pre {f n : Int} {R : List RD} (h : Inv f n R) (L : List D) (hL : L.length ≤ 5) (q : Nat) (hqL : q ≤ L.length) (hqR : q ≤ R.length) (e : L.take q = (R.take q).map progD) (b : Bool) (hb : Ev (fun k => ledger_Right.l0 k L (L.length : Int) (q : Int) f n L) b) : ∀ (d i : Nat), i + d = q → Ev (fun k => ledger_Right.l0 k L (L.length : Int) (i : Int) f n L) b
 | 0, i, hi => by
  have : i = q := by omega
  subst this
  exact hb
 | d + 1, i, hi => by
  have hlt : i < R.length := by omega
  have hltL : i < L.length := by omega
  have hd := dright_ev (h.all _ (List.getElem_mem hlt)) h.n1 h.fn L
  have ih := right_pre h L hL q hqL hqR e b hb d (i + 1) (by omega)
  have ew := w_nat (i := i) (by omega)
  have hx : L[i] = progD R[i] := by
   have h1 : (L.take q)[i]? = some (progD R[i]) := by
    rw [e, List.getElem?_map, List.getElem?_take_of_lt (by omega), List.getElem?_eq_getElem hlt]; rfl
   rw [List.getElem?_take_of_lt (by omega), List.getElem?_eq_getElem hltL] at h1
   exact Option.some.inj h1
  have ht : L.take i = (R.take i).map progD := by
   have h1 : (L.take q).take i = L.take i := by rw [List.take_take]; congr 1; omega
   rw [← h1, e, ← List.map_take, List.take_take]; congr 2; omega
  have hno : ¬ pN (progD R[i]).f0 (R.take i) < (R.take i).length := pN_ge _ (fun x hx g => by
   obtain ⟨j, hj, rfl⟩ := List.mem_iff_getElem.1 hx
   rw [List.length_take] at hj
   rw [List.getElem_take] at g
   have := List.pairwise_iff_getElem.1 h.apart j i (by rw [List.length_map]; omega) (by rw [List.length_map]; omega) (by omega)
   simp only [List.getElem_map] at this
   exact this g)
  obtain ⟨K, hK⟩ := hd
  obtain ⟨K', hK'⟩ := ih
  refine ⟨K + K' + 1, fun k hk => ?_⟩
  obtain ⟨k, rfl⟩ : ∃ j, k = j + 1 := ⟨k - 1, by omega⟩
  have q1 : ledger_Dest_right.f k (progD R[i]).f0 (progD R[i]).f1 (progD R[i]).f2 (progD R[i]).f3 (progD R[i]).f4 (progD R[i]).f5 (progD R[i]).f6 f n L = some true := hK k (by omega)
  show ledger_Right.l0 (k + 1) L (L.length : Int) (i : Int) f n L = _
  rw [ledger_Right.l0, if_pos (by omega), if_pos (by omega), if_pos (by omega), rdD L i hltL, hx, q1, Option.bind_some, if_pos rfl, if_pos (by omega), Int.toNat_natCast, ht, place_prog, Option.bind_some, show pI (progD R[i]).f0 (R.take i) = -1 from if_neg hno, if_neg (by omega), ew]
  exact hK' k (by omega)
theorem right_at {f n : Int} (L : List D) (q : Nat) (hq : q < L.length) (hd : Ev (fun k => dRight k L[q] f n L) false) : Ev (fun k => ledger_Right.l0 k L (L.length : Int) (q : Int) f n L) false := by
 obtain ⟨K, hK⟩ := hd
 refine ⟨K + 1, fun k hk => ?_⟩
 obtain ⟨k, rfl⟩ : ∃ j, k = j + 1 := ⟨k - 1, by omega⟩
 have q1 : ledger_Dest_right.f k L[q].f0 L[q].f1 L[q].f2 L[q].f3 L[q].f4 L[q].f5 L[q].f6 f n L = some false := hK k (by omega)
 show ledger_Right.l0 (k + 1) L (L.length : Int) (q : Int) f n L = _
 rw [ledger_Right.l0, if_pos (by omega), if_pos (by omega), if_pos (by omega), rdD L q hq, q1, Option.bind_some, if_neg Bool.false_ne_true]
theorem right_from {f n : Int} (h1 : 1 ≤ f) (h2 : f ≤ n) (L : List D) (hL : L.length ≤ 4) (b : Bool) (h : Ev (fun k => ledger_Right.l0 k L (L.length : Int) 0 f n L) b) : Ev (fun k => ledger_Right.f k f n L) b := by
 have e : decide ((L.length : Int) > 4) = false := decide_eq_false (by omega)
 have hj : Ev (fun k => ledger_Right.j0 k false f n L) b := by
  refine Ev.step (fun k => ?_) h
  rw [ledger_Right.j0, if_neg (by decide)]
 refine Ev.congr (fun k => ?_) hj
 show ledger_Right.f k f n L = _
 unfold ledger_Right.f
 rw [if_neg (by omega), if_neg (by omega), e]
theorem right_no {f n : Int} (L : List D) (h : f < 1 ∨ f > n ∨ 4 < L.length) : Ev (fun k => ledger_Right.f k f n L) false := by
 have hj : Ev (fun k => ledger_Right.j0 k true f n L) false := Ev.stop fun k => by rw [ledger_Right.j0, if_pos rfl]
 refine Ev.congr (fun k => ?_) hj
 show ledger_Right.f k f n L = _
 unfold ledger_Right.f
 by_cases c1 : f < 1
 ·rw [if_pos c1]
 ·rw [if_neg c1]
  by_cases c2 : f > n
  ·rw [if_pos c2]
  ·have e : decide ((L.length : Int) > 4) = true := decide_eq_true (by omega)
   rw [if_neg c2, e]
/-- A destination that is wrong at once. -/
theorem dRight_no (d : D) (f n : Int) (L : List D) (h : label_Name.f d.f0 = some false ∨ label_Name.f d.f0 = some true ∧ (d.f1 < 1 ∨ d.f2 < d.f1)) : Ev (fun k => dRight k d f n L) false := by
 have hj : Ev (fun k => ledger_Dest_right.j0 k true d.f0 d.f1 d.f2 d.f3 d.f4 d.f5 d.f6 f n L) false := Ev.stop fun k => by rw [ledger_Dest_right.j0, if_pos rfl]
 refine Ev.congr (fun k => ?_) hj
 show ledger_Dest_right.f k d.f0 d.f1 d.f2 d.f3 d.f4 d.f5 d.f6 f n L = _
 unfold ledger_Dest_right.f
 rcases h with h | ⟨h, h2⟩
 ·rw [h, Option.bind_some, if_neg Bool.false_ne_true]
 ·rw [h, Option.bind_some, if_pos rfl]
  by_cases c : d.f1 < 1
  ·rw [if_pos c]
  ·rw [if_neg c, if_pos (by omega)]
theorem dright_bad (nm : ByteArray) (s lo : Int) (ab : List Int) (c4 c5 c6 f n : Int) (L : List D) (hs : 1 ≤ s) (hlo : s ≤ lo) (hln : lo ≤ n) (hn : n ≤ 1000) (hsort : ab.Pairwise (· < ·)) (hin : ∀ y ∈ ab, lo < y ∧ y < n) (hlen : lo - s + (ab.length : Int) ≤ n - s) (hsum : c4 + c5 + c6 = lo - s + (ab.length : Int) + 1) (hc : 0 ≤ c4 ∧ 0 ≤ c5 ∧ 0 ≤ c6) (hpend : n - s - (lo - s + (ab.length : Int)) = 0 ∨ f ≤ lo) : ∀ (d i : Nat) (last : Int), i + d = ab.length → (∀ y ∈ ab.drop i, last < y) → Ev (fun k => ledger_Dest_right.l0 k last ab (ab.length : Int) (i : Int) nm s lo ab c4 c5 c6 f n L) false
 | 0, i, last, hi, hlast => by
  refine Ev.stop fun k => ?_
  have e1 : Go.IntKind.u64.wrap (n - s) = n - s := u64_small (by omega) (by omega)
  have e2 : Go.IntKind.u64.wrap (lo - s) = lo - s := u64_small (by omega) (by omega)
  have e3 : Go.IntKind.u64.wrap (ab.length : Int) = (ab.length : Int) := u64_small (by omega) (by omega)
  have e4 : Go.IntKind.u64.wrap (lo - s + (ab.length : Int)) = lo - s + (ab.length : Int) := u64_small (by omega) (by omega)
  have e5 : Go.IntKind.u64.wrap (n - s - (lo - s + (ab.length : Int))) = n - s - (lo - s + (ab.length : Int)) := u64_small (by omega) (by omega)
  have e6 : Go.IntKind.u64.wrap (c4 + c5) = c4 + c5 := u64_small (by omega) (by omega)
  have e7 : Go.IntKind.u64.wrap (c4 + c5 + c6) = c4 + c5 + c6 := u64_small (by omega) (by omega)
  rw [ledger_Dest_right.l0, if_neg (by omega), e1, e2, e3, e4, e5, e6, e7]
  have e8 : (c4 + c5 + c6 == lo - s + (ab.length : Int)) = false := by
   rw [beq_eq_false_iff_ne]; omega
  rw [e8]
  by_cases c : n - s - (lo - s + (ab.length : Int)) = 0
  ·rw [if_pos c]
  ·rw [if_neg c, if_pos (by omega)]
 | d + 1, i, last, hi, hlast => by
  have hlt : i < ab.length := by omega
  have hdr : ab.drop i = ab[i] :: ab.drop (i + 1) := List.drop_eq_getElem_cons hlt
  have hp := hsort.sublist (List.drop_sublist i ab)
  rw [hdr, List.pairwise_cons] at hp
  have hle : (i : Int) < (ab.length : Int) := Int.ofNat_lt.2 hlt
  have h1 := hlast ab[i] (by rw [hdr]; exact List.mem_cons_self)
  have h2 := hin ab[i] (List.getElem_mem hlt)
  have ih := dright_bad nm s lo ab c4 c5 c6 f n L hs hlo hln hn hsort hin hlen hsum hc hpend d (i + 1) ab[i] (by omega) hp.1
  have e : wrap64 ((i : Int) + 1) = ((i + 1 : Nat) : Int) := w_nat (by clear hsum hc hpend hin ih hp hlast h1 h2; omega)
  refine Ev.step (fun k => ?_) ih
  rw [ledger_Dest_right.l0, if_pos hle, if_pos (Int.natCast_nonneg i), if_pos hle, rd_at ab i hlt, if_neg (Int.not_le.2 h1), if_neg (Int.not_le.2 h2.2), e]
theorem acked_bad {f n : Int} {x : RD} (h : DI f n x) (hn : n ≤ 1000) (hf : f ≤ n) (L : List D) : Ev (fun k => dRight k ⟨(progD x).f0, (progD x).f1, (progD x).f2, (progD x).f3, Go.IntKind.u64.wrap ((progD x).f4 + 1), (progD x).f5, (progD x).f6⟩ f n L) false := by
 have h1 := h.since
 have h2 := h.next
 have hlo := lowN_le x.f2
 have hal := abv_len x.f2 x.f1
 have hnp := nonP_sum x.f2 h.stat
 have hnl : nonP x.f2 ≤ x.f2.length := List.countP_le_length
 have hu : Go.IntKind.u64.wrap (((cntN 97 x.f2 : Nat) : Int) + 1) = ((cntN 97 x.f2 : Nat) : Int) + 1 := u64_small (by omega) (by omega)
 have hpend : n - x.f1 - (x.f1 + (lowN x.f2 : Int) - x.f1 + ((abvL (x.f1 + (lowN x.f2 : Int)) x.f1 x.f2).length : Int)) = 0 ∨ f ≤ x.f1 + (lowN x.f2 : Int) := by
  by_cases c : lowN x.f2 < x.f2.length
  ·right
   have := isP_lt h (low_isP c)
   omega
  ·right; omega
 have hin : ∀ y ∈ abvL (x.f1 + (lowN x.f2 : Int)) x.f1 x.f2, x.f1 + (lowN x.f2 : Int) < y ∧ y < n := fun y hy => by
  obtain ⟨i, b, g1, g2, g3, g4⟩ := (mem_abvL _ _ _ _).1 hy
  have := (List.getElem?_eq_some_iff.1 g1).1
  clear hal hnp hnl hpend
  omega
 have a1 : x.f1 ≤ x.f1 + (lowN x.f2 : Int) := by clear hal hnp hnl hpend hin; omega
 have a2 : x.f1 + (lowN x.f2 : Int) ≤ n := by clear hal hnp hnl hpend hin; omega
 have a3 : x.f1 + (lowN x.f2 : Int) - x.f1 + ((abvL (x.f1 + (lowN x.f2 : Int)) x.f1 x.f2).length : Int) ≤ n - x.f1 := by clear hnp hpend hin; omega
 have a4 : ((cntN 97 x.f2 : Nat) : Int) + 1 + ((cntN 101 x.f2 : Nat) : Int) + ((cntN 114 x.f2 : Nat) : Int) = x.f1 + (lowN x.f2 : Int) - x.f1 + ((abvL (x.f1 + (lowN x.f2 : Int)) x.f1 x.f2).length : Int) + 1 := by clear hnl hpend hin a1 a2 a3; omega
 have a5 : 0 ≤ ((cntN 97 x.f2 : Nat) : Int) + 1 := by clear hal hnp hnl hpend hin a1 a2 a3 a4; omega
 have hl := dright_bad x.f0 x.f1 (x.f1 + (lowN x.f2 : Int)) (abvL (x.f1 + (lowN x.f2 : Int)) x.f1 x.f2) (((cntN 97 x.f2 : Nat) : Int) + 1) ((cntN 101 x.f2 : Nat) : Int) ((cntN 114 x.f2 : Nat) : Int) f n L h1 a1 a2 hn (abvL_sorted _ _ _) hin a3 a4 ⟨a5, Int.natCast_nonneg _, Int.natCast_nonneg _⟩ hpend (abvL (x.f1 + (lowN x.f2 : Int)) x.f1 x.f2).length 0 (x.f1 + (lowN x.f2 : Int)) (Nat.zero_add _) (fun y hy => by
   rw [List.drop_zero] at hy
   exact (hin y hy).1)
 have hnm := (name_ok x.f0 h.name).1
 have e : decide (n < x.f1 + (lowN x.f2 : Int)) = false := decide_eq_false (by omega)
 have hj : Ev (fun k => ledger_Dest_right.j0 k false x.f0 x.f1 (x.f1 + (lowN x.f2 : Int)) (abvL (x.f1 + (lowN x.f2 : Int)) x.f1 x.f2) (((cntN 97 x.f2 : Nat) : Int) + 1) ((cntN 101 x.f2 : Nat) : Int) ((cntN 114 x.f2 : Nat) : Int) f n L) false := by
  refine Ev.step (fun k => ?_) hl
  rw [ledger_Dest_right.j0, if_neg (by decide)]; rfl
 refine Ev.congr (fun k => ?_) hj
 show ledger_Dest_right.f k x.f0 x.f1 (x.f1 + (lowN x.f2 : Int)) (abvL (x.f1 + (lowN x.f2 : Int)) x.f1 x.f2) (Go.IntKind.u64.wrap (((cntN 97 x.f2 : Nat) : Int) + 1)) ((cntN 101 x.f2 : Nat) : Int) ((cntN 114 x.f2 : Nat) : Int) f n L = _
 unfold ledger_Dest_right.f
 rw [hnm, Option.bind_some, if_pos rfl, if_neg (by omega), if_neg (by omega), e, hu]
theorem above_bad {f n : Int} {x : RD} (h : DI f n x) (hn : n ≤ 1000) (L : List D) : Ev (fun k => dRight k ⟨(progD x).f0, (progD x).f1, (progD x).f2, [n], (progD x).f4, (progD x).f5, (progD x).f6⟩ f n L) false := by
 have h1 := h.since
 have h2 := h.next
 have hlo := lowN_le x.f2
 have hnm := (name_ok x.f0 h.name).1
 have e : decide (n < x.f1 + (lowN x.f2 : Int)) = false := decide_eq_false (by omega)
 have hl : Ev (fun k => ledger_Dest_right.l0 k (x.f1 + (lowN x.f2 : Int)) [n] ((1 : Nat) : Int) ((0 : Nat) : Int) x.f0 x.f1 (x.f1 + (lowN x.f2 : Int)) [n] ((cntN 97 x.f2 : Nat) : Int) ((cntN 101 x.f2 : Nat) : Int) ((cntN 114 x.f2 : Nat) : Int) f n L) false := by
  refine Ev.stop fun k => ?_
  have hr : rd [n] ((0 : Nat) : Int) = n := rfl
  rw [ledger_Dest_right.l0, if_pos (by decide), if_pos (by decide), if_pos (by simp), hr]
  by_cases c : n ≤ x.f1 + (lowN x.f2 : Int)
  ·rw [if_pos c]
  ·rw [if_neg c, if_pos (Int.le_refl _)]
 have hj : Ev (fun k => ledger_Dest_right.j0 k false x.f0 x.f1 (x.f1 + (lowN x.f2 : Int)) [n] ((cntN 97 x.f2 : Nat) : Int) ((cntN 101 x.f2 : Nat) : Int) ((cntN 114 x.f2 : Nat) : Int) f n L) false := by
  refine Ev.step (fun k => ?_) hl
  rw [ledger_Dest_right.j0, if_neg (by decide)]; rfl
 refine Ev.congr (fun k => ?_) hj
 show ledger_Dest_right.f k x.f0 x.f1 (x.f1 + (lowN x.f2 : Int)) [n] ((cntN 97 x.f2 : Nat) : Int) ((cntN 101 x.f2 : Nat) : Int) ((cntN 114 x.f2 : Nat) : Int) f n L = _
 unfold ledger_Dest_right.f
 rw [hnm, Option.bind_some, if_pos rfl, if_neg (by omega), if_neg (by omega), e]
/-- One destination of a right ledger changed, so that it is not right. -/
theorem right_set {f n : Int} {R : List RD} (h : Inv f n R) (q : Nat) (hq : q < R.length) (z : D) (hz : ∀ L, Ev (fun k => dRight k z f n L) false) : Ev (fun k => ledger_Right.f k f n ((R.map progD).set q z)) false := by
 have hfew := h.few
 have hl : ((R.map progD).set q z).length = R.length := by rw [List.length_set, List.length_map]
 have hq' : q < ((R.map progD).set q z).length := by omega
 refine right_from h.f1 h.fn _ (by omega) false ?_
 refine right_pre h _ (by omega) q (by omega) (by omega) ?_ false (right_at _ q hq' ?_) q 0 (by omega)
 ·rw [List.take_set_of_le (Nat.le_refl q), List.map_take]
 ·have : ((R.map progD).set q z)[q] = z := List.getElem_set_self _
  rw [this]
  exact hz _
/-- One destination more, of a name that is there. -/
theorem right_twice {f n : Int} {R : List RD} (h : Inv f n R) (q : Nat) (hq : q < R.length) : Ev (fun k => ledger_Right.f k f n (R.map progD ++ [progD R[q]])) false := by
 have hfew := h.few
 have hl : (R.map progD ++ [progD R[q]]).length = R.length + 1 := by rw [List.length_append, List.length_map, List.length_singleton]
 by_cases c : R.length = 4
 ·exact right_no _ (Or.inr (Or.inr (by omega)))
 ·refine right_from h.f1 h.fn _ (by omega) false ?_
  refine right_pre h _ (by omega) R.length (by omega) (by omega) ?_ false ?_ R.length 0 (by omega)
  ·rw [List.take_append_of_le_length (by rw [List.length_map]; omega), List.take_of_length_le (by rw [List.length_map]; omega), List.take_of_length_le (Nat.le_refl _)]
  ·have hlt : R.length < (R.map progD ++ [progD R[q]]).length := by omega
   have hx : (R.map progD ++ [progD R[q]])[R.length] = progD R[q] := by
    rw [List.getElem_append_right (by rw [List.length_map]; omega)]
    simp
   have ht : (R.map progD ++ [progD R[q]]).take R.length = R.map progD := by
    rw [List.take_append_of_le_length (by rw [List.length_map]; omega), List.take_of_length_le (by rw [List.length_map]; omega)]
   have hd := dright_ev (h.all _ (List.getElem_mem hq)) h.n1 h.fn (R.map progD ++ [progD R[q]])
   have hpl : pN R[q].f0 R < R.length := pN_lt (List.getElem_mem hq) rfl
   obtain ⟨K, hK⟩ := hd
   refine ⟨K + 1, fun k hk => ?_⟩
   obtain ⟨k, rfl⟩ : ∃ j, k = j + 1 := ⟨k - 1, by omega⟩
   have q1 : ledger_Dest_right.f k (progD R[q]).f0 (progD R[q]).f1 (progD R[q]).f2 (progD R[q]).f3 (progD R[q]).f4 (progD R[q]).f5 (progD R[q]).f6 f n (R.map progD ++ [progD R[q]]) = some true := hK k (by omega)
   show ledger_Right.l0 (k + 1) (R.map progD ++ [progD R[q]]) ((R.map progD ++ [progD R[q]]).length : Int) (R.length : Int) f n (R.map progD ++ [progD R[q]]) = _
   rw [ledger_Right.l0, if_pos (by omega), if_pos (by omega), if_pos (by omega), rdD _ R.length hlt, hx, q1, Option.bind_some, if_pos rfl, if_pos (by omega), Int.toNat_natCast, ht, place_prog, Option.bind_some, show pI (progD R[q]).f0 R = (pN R[q].f0 R : Int) from if_pos hpl, if_pos (by omega)]
theorem radd_inv {f n : Int} {r : List RD} (h : Inv f n r) (hn : n < 1000) : Inv f (n + 1) (radd r) :=
 ⟨h.f1, by have := h.fn; omega, by omega, by rw [radd_len]; exact h.few, fun x hx => by
  obtain ⟨y, hy, rfl⟩ := List.mem_map.1 hx
  exact (h.all y hy).add h.fn, by rw [radd_names]; exact h.apart⟩
theorem right_j0 {f n : Int} {r : List RD} (h : Inv f n r) (hn : n < 500) (hr : 0 < r.length) (a1 a2 : Int) (h1 : -9223372036854775808 ≤ a1 ∧ a1 < 9223372036854775808) (h2 : -9223372036854775808 ≤ a2 ∧ a2 < 9223372036854775808) : Ev (fun k => postroomlaw10_LedgerRight.j0 k a1 a2 false f n (r.map progD)) true := by
 have hfew := h.few
 have hf1 := h.f1
 have hfn := h.fn
 obtain ⟨t, ht, t0, t1⟩ := pick_ev a1 (r.length : Int) h1.1 h1.2 (by omega)
 obtain ⟨q, rfl⟩ : ∃ q : Nat, t = (q : Int) := ⟨t.toNat, by omega⟩
 obtain ⟨s, hs, s0, s1⟩ := pick_ev a2 8 h2.1 h2.2 (by decide)
 have hI := radd_inv h (by omega)
 have hadd : ledger_Add.f f n (r.map progD) = some (f, n + 1, (radd r).map progD) := by
  rw [add_law f n r h.big, u64_small (by omega) (by omega), prog_radd]
 have hlen : (radd r).length = r.length := radd_len r
 have hq : q < (radd r).length := by omega
 have hok := right_law hI
 have hn1 := hI.n1
 generalize radd r = R at hI hadd hlen hq hok
 have hm := List.getElem_mem hq
 have hD := hI.all _ hm
 have hs1 := hD.since
 have hrd := rdP R q hq
 have hlt1 : (q : Int) < (([] ++ R.map progD : List D).length : Int) := by rw [List.nil_append, List.length_map]; omega
 have ht' : postroomlaw10_pick.f a1 ((r.map progD).length : Int) = some (q : Int) := by rw [List.length_map]; exact ht
 have fin : ∀ {o : Nat → Option Bool}, Ev o false → Ev (fun k => (ledger_Right.f k f (n + 1) (R.map progD)).bind fun t => (if t = true then ((o k).bind fun u => (some (!u))) else (none))) true := fun ho =>
  Ev.bind hok (Ev.congr (fun k => if_pos rfl) (Ev.bind ho (Ev.now _)))
 refine Ev.step (fun k => by rw [postroomlaw10_LedgerRight.j0, if_neg (by decide)]) ?_
 refine Ev.bind (Ev.fix ht') (Ev.bind (Ev.fix hadd) (Ev.bind (Ev.fix rfl) (Ev.congr (fun k => if_pos (by rw [List.length_nil, List.length_map]; omega)) (Ev.bind (Ev.fix rfl) (Ev.bind (Ev.fix hs) ?_)))))
 simp only [List.nil_append]
 have l1 : (0 : Int) ≤ (q : Int) := by omega
 have l2 : (q : Int) < ((R.map progD).length : Int) := by rw [List.length_map]; omega
 have eq8 : s = 0 ∨ s = 1 ∨ s = 2 ∨ s = 3 ∨ s = 4 ∨ s = 5 ∨ s = 6 ∨ s = 7 := by omega
 have hnm := (name_ok R[q].f0 hD.name).1
 rcases eq8 with rfl | rfl | rfl | rfl | rfl | rfl | rfl | rfl
 ·refine Ev.congr (fun k => (if_pos rfl).trans ((if_pos l1).trans (if_pos l2))) (fin ?_)
  rw [hrd, Int.toNat_natCast]
  exact right_set hI q hq _ (fun L => acked_bad hD hI.n1 hI.fn L)
 ·refine Ev.congr (fun k => (if_neg (show ¬ (1 : Int) = 0 by decide)).trans ((if_pos rfl).trans ((if_pos l1).trans (if_pos l2)))) (fin ?_)
  rw [hrd, Int.toNat_natCast]
  refine right_set hI q hq _ (fun L => dRight_no _ _ _ L (Or.inr ⟨hnm, Or.inr ?_⟩))
  show Go.IntKind.u64.wrap (R[q].f1 - 1) < R[q].f1
  have hnx := hD.next
  rw [u64_small (by omega) (by omega)]; omega
 ·refine Ev.congr (fun k => (if_neg (show ¬ (2 : Int) = 0 by decide)).trans ((if_neg (show ¬ (2 : Int) = 1 by decide)).trans ((if_pos rfl).trans ((if_pos l1).trans (if_pos l2))))) (fin ?_)
  rw [hrd, Int.toNat_natCast]
  exact right_set hI q hq _ (fun L => dRight_no _ _ _ L (Or.inl name_bad.1))
 ·refine Ev.congr (fun k => (if_neg (show ¬ (3 : Int) = 0 by decide)).trans ((if_neg (show ¬ (3 : Int) = 1 by decide)).trans ((if_neg (show ¬ (3 : Int) = 2 by decide)).trans ((if_pos rfl).trans ((if_pos l1).trans (if_pos l2)))))) (fin ?_)
  rw [hrd, Int.toNat_natCast]
  exact right_set hI q hq _ (fun L => above_bad hD hI.n1 L)
 ·refine Ev.congr (fun k => (if_neg (show ¬ (4 : Int) = 0 by decide)).trans ((if_neg (show ¬ (4 : Int) = 1 by decide)).trans ((if_neg (show ¬ (4 : Int) = 2 by decide)).trans ((if_neg (show ¬ (4 : Int) = 3 by decide)).trans (if_pos rfl))))) (fin ?_)
  exact right_no _ (Or.inl (by decide))
 ·refine Ev.congr (fun k => (if_neg (show ¬ (5 : Int) = 0 by decide)).trans ((if_neg (show ¬ (5 : Int) = 1 by decide)).trans ((if_neg (show ¬ (5 : Int) = 2 by decide)).trans ((if_neg (show ¬ (5 : Int) = 3 by decide)).trans ((if_neg (show ¬ (5 : Int) = 4 by decide)).trans (if_pos rfl)))))) (fin ?_)
  have e : Go.IntKind.u64.wrap (n + 1 + 1) = n + 2 := by rw [u64_small (by omega) (by omega)]; omega
  rw [e]
  exact right_no _ (Or.inr (Or.inl (by omega)))
 ·refine Ev.congr (fun k => (if_neg (show ¬ (6 : Int) = 0 by decide)).trans ((if_neg (show ¬ (6 : Int) = 1 by decide)).trans ((if_neg (show ¬ (6 : Int) = 2 by decide)).trans ((if_neg (show ¬ (6 : Int) = 3 by decide)).trans ((if_neg (show ¬ (6 : Int) = 4 by decide)).trans ((if_neg (show ¬ (6 : Int) = 5 by decide)).trans ((if_pos rfl).trans ((if_pos l1).trans ((if_pos l2).trans (if_pos (by rw [List.length_map]; omega))))))))))) (fin ?_)
  rw [hrd]
  exact right_twice hI q hq
 ·refine Ev.congr (fun k => (if_neg (show ¬ (7 : Int) = 0 by decide)).trans ((if_neg (show ¬ (7 : Int) = 1 by decide)).trans ((if_neg (show ¬ (7 : Int) = 2 by decide)).trans ((if_neg (show ¬ (7 : Int) = 3 by decide)).trans ((if_neg (show ¬ (7 : Int) = 4 by decide)).trans ((if_neg (show ¬ (7 : Int) = 5 by decide)).trans ((if_neg (show ¬ (7 : Int) = 6 by decide)).trans ((if_pos l1).trans (if_pos l2))))))))) (fin ?_)
  rw [hrd, Int.toNat_natCast]
  exact right_set hI q hq _ (fun L => dRight_no _ _ _ L (Or.inr ⟨hnm, Or.inl (show (0 : Int) < 1 by decide)⟩))
end Go.Proofs.YthhmpjapnkilcaaDoor.Ldg
namespace Go.Proofs.YthhmpjapnkilcaaDoor
open Go.Proofs.YthhmpjapnkilcaaDoorW.PrintWords hiding encs
open Go.RowKit Go.Proofs.YthhmpjapnkilcaaDoorW.PrintLast Go.Proofs.YthhmpjapnkilcaaDoorW.PrintMore Go.Proofs.YthhmpjapnkilcaaDoor.Num Go.Proofs.YthhmpjapnkilcaaDoor.XLdg Go.Proofs.YthhmpjapnkilcaaDoor.Ldg
theorem Pure.LedgerRight : XLdg.postroomlaw10_LedgerRight.Pure := by
 intro l a1 a2 hm hy hw h1 h2
 have key : Ev (fun k => postroomlaw10_LedgerRight.f k l a1 a2) true := by
  unfold postroomlaw10_LedgerRight.f
  refine Ev.bind shown_ev (Ev.congr (fun k => if_pos rfl) ?_)
  by_cases c : (l.length : Int) > 100
  ·exact Ev.congr (fun k => if_pos c) (Ev.now _)
  ·obtain ⟨hI, hN⟩ := run_inv l (by omega)
   have hr := run_ev l (by omega) (wf_acts hw)
   generalize runA l = S at hI hN hr
   obtain ⟨f, n, r⟩ := S
   have hI' : Inv f n r := hI
   have hN' : n ≤ 1 + (l.length : Int) := hN
   refine Ev.congr (fun k => if_neg c) (Ev.bind hr ?_)
   by_cases c2 : ((r.map progD).length : Int) = 0
   ·refine Ev.congr (fun k => if_pos c2) (Ev.step (fun k => by rw [postroomlaw10_LedgerRight.j0, if_pos rfl]) ?_)
    exact Ev.bind (right_law hI') (Ev.now _)
   ·refine Ev.congr (fun k => if_neg c2) (Ev.bind (right_law hI') ?_)
    rw [List.length_map] at c2
    exact right_j0 hI' (by omega) (by omega) a1 a2 (wf_i64 h1) (wf_i64 h2)
 obtain ⟨K, hK⟩ := key
 exact ⟨K, hK K (Nat.le_refl _)⟩
end Go.Proofs.YthhmpjapnkilcaaDoor
