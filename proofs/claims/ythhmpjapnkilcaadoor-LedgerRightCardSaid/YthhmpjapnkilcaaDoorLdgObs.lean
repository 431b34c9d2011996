/- The plain law of chapter 10, fourth part: what is told of a ledger. Conditions: those that each theorem names. -/
import Derived.Test.YthhmpjapnkilcaaDoorLdgLaw
import Derived.Test.YthhmpjapnkilcaaDoorXLdgP1
import Derived.Test.YthhmpjapnkilcaaDoorXLdgP2
import Derived.Test.YthhmpjapnkilcaaDoorXLdgP5
import Derived.Test.YthhmpjapnkilcaaDoorXLdgP3
import Derived.Test.YthhmpjapnkilcaaDoorXLdgx32
namespace Go.Proofs.YthhmpjapnkilcaaDoor.Ldg
open Go.Proofs.YthhmpjapnkilcaaDoorW.PrintWords hiding encs
open Go.RowKit Go.Proofs.YthhmpjapnkilcaaDoorW.PrintLast Go.Proofs.YthhmpjapnkilcaaDoorW.PrintMore Go.Proofs.YthhmpjapnkilcaaDoor.Num Go.Proofs.YthhmpjapnkilcaaDoor.XLdg
set_option linter.unusedVariables false
set_option linter.unusedSimpArgs false
theorem place_prog (r : List RD) (nm : ByteArray) : ledger_place.f (r.map progD) nm = some (pI nm r) := by rw [← plI_prog]; rfl
theorem rdP (r : List RD) (i : Nat) (h : i < r.length) : rd_T37 (r.map progD) (i : Int) = progD r[i] := by
 unfold rd_T37
 rw [Int.toNat_natCast, List.getD_eq_getElem?_getD, List.getElem?_map, List.getElem?_eq_getElem h]; rfl
open Classical in
/-- Whether a name waits for an entry. -/
noncomputable def waitsA (r : List RD) (nm : ByteArray) (seq : Int) : Bool := if h : pN nm r < r.length then decide (isP r[pN nm r] seq) else false
theorem isP_lt {f n : Int} {x : RD} (h : DI f n x) {seq : Int} (hp : isP x seq) : f ≤ seq ∧ x.f1 ≤ seq ∧ x.f1 + (lowN x.f2 : Int) ≤ seq ∧ seq < n := by
 obtain ⟨i, h1, h2⟩ := hp
 have h3 := (List.getElem?_eq_some_iff.1 h1).1
 have h4 := h.next
 have h5 := h.pend i h1
 have h6 : ¬ i < lowN x.f2 := fun g => low_before x.f2 i g h1
 omega
/-- The entries that are pending. -/
def pendL : Int → List Int → List Int
 | _, [] => []
 | x, b :: r => if b = 112 then x :: pendL (x + 1) r else pendL (x + 1) r
/-- What a name waits for. -/
def pendA (r : List RD) (nm : ByteArray) : List Int := if h : pN nm r < r.length then pendL r[pN nm r].f1 r[pN nm r].f2 else []
/-- Those of a span that are waited for. -/
noncomputable def scanA (w : Int → Bool) : Nat → Int → List Int
 | 0, _ => []
 | m + 1, s => if w s = true then s :: scanA w m (s + 1) else scanA w m (s + 1)
/-- The first that one waits for. -/
def freeA (n : Int) (r : List RD) : Int := r.foldl (fun m x => mn m (x.f1 + (lowN x.f2 : Int))) n
theorem free_l0 {f n : Int} {r : List RD} (hl : r.length ≤ 1000000) : ∀ (d i : Nat) (m : Int), i + d = r.length → Ev (fun k => ledger_Free.l0 k m (r.map progD) (r.length : Int) (i : Int)) ((r.drop i).foldl (fun m x => mn m (x.f1 + (lowN x.f2 : Int))) m)
 | 0, i, m, hi => by
  refine Ev.stop fun k => ?_
  rw [ledger_Free.l0, if_neg (by omega), List.drop_eq_nil_of_le (by omega)]; rfl
 | d + 1, i, m, hi => by
  have hlt : i < r.length := by omega
  have ih := free_l0 (f := f) (n := n) hl d (i + 1) (mn m (r[i].f1 + (lowN r[i].f2 : Int))) (by omega)
  have e : wrap64 ((i : Int) + 1) = ((i + 1 : Nat) : Int) := by rw [w64 (by omega) (by omega)]; omega
  rw [List.drop_eq_getElem_cons hlt, List.foldl_cons]
  refine Ev.step (fun k => ?_) ih
  rw [ledger_Free.l0, if_pos (by omega), if_pos (by omega), if_pos (by rw [List.length_map]; omega), rdP r i hlt, e]
  rfl
theorem free_law {f n : Int} {r : List RD} (h : Inv f n r) : Ev (fun k => ledger_Free.f k f n (r.map progD)) (freeA n r) := by
 have := free_l0 (f := f) (n := n) h.big r.length 0 n (by omega)
 rw [List.drop_zero] at this
 refine Ev.congr (fun k => ?_) this
 unfold ledger_Free.f
 rw [List.length_map]; rfl
theorem low_isP {x : RD} (h : lowN x.f2 < x.f2.length) : isP x (x.f1 + (lowN x.f2 : Int)) := ⟨lowN x.f2, low_at x.f2 h, rfl⟩
theorem w_nat {i : Nat} (h : i < 1000000) : wrap64 ((i : Int) + 1) = ((i + 1 : Nat) : Int) := by rw [w64 (by omega) (by omega)]; omega
/-- A destination is right. -/
theorem dright_l0 (nm : ByteArray) (s lo : Int) (ab : List Int) (c4 c5 c6 f n : Int) (L : List D) (hs : 1 ≤ s) (hlo : s ≤ lo) (hln : lo ≤ n) (hn : n ≤ 1000) (hsort : ab.Pairwise (· < ·)) (hin : ∀ y ∈ ab, lo < y ∧ y < n) (hlen : lo - s + (ab.length : Int) ≤ n - s) (hsum : c4 + c5 + c6 = lo - s + (ab.length : Int)) (hc : 0 ≤ c4 ∧ 0 ≤ c5 ∧ 0 ≤ c6) (hpend : n - s - (lo - s + (ab.length : Int)) = 0 ∨ f ≤ lo) : ∀ (d i : Nat) (last : Int), i + d = ab.length → (∀ y ∈ ab.drop i, last < y) → Ev (fun k => ledger_Dest_right.l0 k last ab (ab.length : Int) (i : Int) nm s lo ab c4 c5 c6 f n L) true
 | 0, i, last, hi, hlast => by
  refine Ev.stop fun k => ?_
  have e1 : Go.IntKind.u64.wrap (n - s) = n - s := u64_small (by omega) (by omega)
  have e2 : Go.IntKind.u64.wrap (lo - s) = lo - s := u64_small (by omega) (by omega)
  have e3 : Go.IntKind.u64.wrap (ab.length : Int) = (ab.length : Int) := u64_small (by omega) (by omega)
  have e4 : Go.IntKind.u64.wrap (lo - s + (ab.length : Int)) = lo - s + (ab.length : Int) := u64_small (by omega) (by omega)
  have e5 : Go.IntKind.u64.wrap (n - s - (lo - s + (ab.length : Int))) = n - s - (lo - s + (ab.length : Int)) := u64_small (by omega) (by omega)
  have e6 : Go.IntKind.u64.wrap (c4 + c5) = c4 + c5 := u64_small (by omega) (by omega)
  have e7 : Go.IntKind.u64.wrap (c4 + c5 + c6) = c4 + c5 + c6 := u64_small (by omega) (by omega)
  rw [ledger_Dest_right.l0, if_neg (by omega), e1, e2, e3, e4, e5, e6, e7]
  have e8 : (c4 + c5 + c6 == lo - s + (ab.length : Int)) = true := by simpa using hsum
  rw [e8]
  by_cases c : n - s - (lo - s + (ab.length : Int)) = 0
  ·rw [if_pos c]
  ·rw [if_neg c, if_pos (by omega)]
 | d + 1, i, last, hi, hlast => by
  have hlt : i < ab.length := by omega
  have hdr : ab.drop i = ab[i] :: ab.drop (i + 1) := List.drop_eq_getElem_cons hlt
  have hp := hsort.sublist (List.drop_sublist i ab)
  rw [hdr, List.pairwise_cons] at hp
  have hle : (i : Int) < (ab.length : Int) := Int.ofNat_lt.2 hlt
  have h1 := hlast ab[i] (by rw [hdr]; exact List.mem_cons_self)
  have h2 := hin ab[i] (List.getElem_mem hlt)
  have ih := dright_l0 nm s lo ab c4 c5 c6 f n L hs hlo hln hn hsort hin hlen hsum hc hpend d (i + 1) ab[i] (by omega) hp.1
  have e : wrap64 ((i : Int) + 1) = ((i + 1 : Nat) : Int) := w_nat (by clear hsum hc hpend hin ih hp hlast h1 h2; omega)
  refine Ev.step (fun k => ?_) ih
  rw [ledger_Dest_right.l0, if_pos hle, if_pos (Int.natCast_nonneg i), if_pos hle, rd_at ab i hlt, if_neg (Int.not_le.2 h1), if_neg (Int.not_le.2 h2.2), e]
theorem dright_ev {f n : Int} {x : RD} (h : DI f n x) (hn : n ≤ 1000) (hf : f ≤ n) (L : List D) : Ev (fun k => ledger_Dest_right.f k (progD x).f0 (progD x).f1 (progD x).f2 (progD x).f3 (progD x).f4 (progD x).f5 (progD x).f6 f n L) true := by
 have h1 := h.since
 have h2 := h.next
 have hlo := lowN_le x.f2
 have hal := abv_len x.f2 x.f1
 have hnp := nonP_sum x.f2 h.stat
 have hnl : nonP x.f2 ≤ x.f2.length := List.countP_le_length
 have hpend : n - x.f1 - (x.f1 + (lowN x.f2 : Int) - x.f1 + ((abvL (x.f1 + (lowN x.f2 : Int)) x.f1 x.f2).length : Int)) = 0 ∨ f ≤ x.f1 + (lowN x.f2 : Int) := by
  by_cases c : lowN x.f2 < x.f2.length
  ·right
   have := isP_lt h (low_isP c)
   omega
  ·right; omega
 have hin : ∀ y ∈ abvL (x.f1 + (lowN x.f2 : Int)) x.f1 x.f2, x.f1 + (lowN x.f2 : Int) < y ∧ y < n := fun y hy => by
  obtain ⟨i, b, g1, g2, g3, g4⟩ := (mem_abvL _ _ _ _).1 hy
  have := (List.getElem?_eq_some_iff.1 g1).1
  clear hal hnp hnl hpend
  omega
 have a1 : x.f1 ≤ x.f1 + (lowN x.f2 : Int) := by clear hal hnp hnl hpend hin; omega
 have a2 : x.f1 + (lowN x.f2 : Int) ≤ n := by clear hal hnp hnl hpend hin; omega
 have a3 : x.f1 + (lowN x.f2 : Int) - x.f1 + ((abvL (x.f1 + (lowN x.f2 : Int)) x.f1 x.f2).length : Int) ≤ n - x.f1 := by clear hnp hpend hin; omega
 have a4 : ((cntN 97 x.f2 : Nat) : Int) + ((cntN 101 x.f2 : Nat) : Int) + ((cntN 114 x.f2 : Nat) : Int) = x.f1 + (lowN x.f2 : Int) - x.f1 + ((abvL (x.f1 + (lowN x.f2 : Int)) x.f1 x.f2).length : Int) := by clear hnl hpend hin a1 a2 a3; omega
 have hl := dright_l0 x.f0 x.f1 (x.f1 + (lowN x.f2 : Int)) (abvL (x.f1 + (lowN x.f2 : Int)) x.f1 x.f2) ((cntN 97 x.f2 : Nat) : Int) ((cntN 101 x.f2 : Nat) : Int) ((cntN 114 x.f2 : Nat) : Int) f n L h1 a1 a2 hn (abvL_sorted _ _ _) hin a3 a4 ⟨Int.natCast_nonneg _, Int.natCast_nonneg _, Int.natCast_nonneg _⟩ hpend (abvL (x.f1 + (lowN x.f2 : Int)) x.f1 x.f2).length 0 (x.f1 + (lowN x.f2 : Int)) (Nat.zero_add _) (fun y hy => by
   rw [List.drop_zero] at hy
   exact (hin y hy).1)
 have hnm := (name_ok x.f0 h.name).1
 have e : decide (n < x.f1 + (lowN x.f2 : Int)) = false := decide_eq_false (by omega)
 have hj : Ev (fun k => ledger_Dest_right.j0 k false x.f0 x.f1 (x.f1 + (lowN x.f2 : Int)) (abvL (x.f1 + (lowN x.f2 : Int)) x.f1 x.f2) ((cntN 97 x.f2 : Nat) : Int) ((cntN 101 x.f2 : Nat) : Int) ((cntN 114 x.f2 : Nat) : Int) f n L) true := by
  refine Ev.step (fun k => ?_) hl
  rw [ledger_Dest_right.j0, if_neg (by decide)]; rfl
 refine Ev.congr (fun k => ?_) hj
 show ledger_Dest_right.f k x.f0 x.f1 (x.f1 + (lowN x.f2 : Int)) (abvL (x.f1 + (lowN x.f2 : Int)) x.f1 x.f2) ((cntN 97 x.f2 : Nat) : Int) ((cntN 101 x.f2 : Nat) : Int) ((cntN 114 x.f2 : Nat) : Int) f n L = _
 unfold ledger_Dest_right.f
 rw [hnm, Option.bind_some, if_pos rfl, if_neg (by omega), if_neg (by omega), e]
theorem pN_ge (nm : ByteArray) : ∀ {r : List RD}, (∀ x ∈ r, x.f0.toList ≠ nm.toList) → ¬ pN nm r < r.length := fun h g => h _ (List.getElem_mem g) (pN_at g)
theorem right_l0 {f n : Int} {r : List RD} (h : Inv f n r) : ∀ (d i : Nat), i + d = r.length → Ev (fun k => ledger_Right.l0 k (r.map progD) (r.length : Int) (i : Int) f n (r.map progD)) true
 | 0, i, hi => by
  refine Ev.stop fun k => ?_
  rw [ledger_Right.l0, if_neg (by omega)]
 | d + 1, i, hi => by
  have hlt : i < r.length := by omega
  have hbig := h.big
  have hd := dright_ev (h.all _ (List.getElem_mem hlt)) h.n1 h.fn (r.map progD)
  have ih := right_l0 h d (i + 1) (by omega)
  have e : wrap64 ((i : Int) + 1) = ((i + 1 : Nat) : Int) := by rw [w64 (by omega) (by omega)]; omega
  have hno : ¬ pN (progD r[i]).f0 (r.take i) < (r.take i).length := pN_ge _ (fun x hx g => by
   obtain ⟨j, hj, rfl⟩ := List.mem_iff_getElem.1 hx
   rw [List.length_take] at hj
   rw [List.getElem_take] at g
   have := List.pairwise_iff_getElem.1 h.apart j i (by rw [List.length_map]; omega) (by rw [List.length_map]; omega) (by omega)
   simp only [List.getElem_map] at this
   exact this g)
  obtain ⟨K, hK⟩ := hd
  obtain ⟨K', hK'⟩ := ih
  refine ⟨K + K' + 1, fun k hk => ?_⟩
  obtain ⟨k, rfl⟩ : ∃ j, k = j + 1 := ⟨k - 1, by omega⟩
  have q1 : ledger_Dest_right.f k (progD r[i]).f0 (progD r[i]).f1 (progD r[i]).f2 (progD r[i]).f3 (progD r[i]).f4 (progD r[i]).f5 (progD r[i]).f6 f n (r.map progD) = some true := hK k (by omega)
  show ledger_Right.l0 (k + 1) (r.map progD) (r.length : Int) (i : Int) f n (r.map progD) = _
  rw [ledger_Right.l0, if_pos (by omega), if_pos (by omega), if_pos (by rw [List.length_map]; omega), rdP r i hlt, q1, Option.bind_some, if_pos rfl, if_pos (by rw [List.length_map]; omega), Int.toNat_natCast, ← List.map_take, place_prog, Option.bind_some, show pI (progD r[i]).f0 (r.take i) = -1 from if_neg hno, if_neg (by omega), e]
  exact hK' k (by omega)
theorem right_law {f n : Int} {r : List RD} (h : Inv f n r) : Ev (fun k => ledger_Right.f k f n (r.map progD)) true := by
 have hl := right_l0 h r.length 0 (by omega)
 have h1 := h.f1
 have h2 := h.fn
 have h3 := h.few
 have e : decide (((r.map progD).length : Int) > 4) = false := decide_eq_false (by rw [List.length_map]; omega)
 have hj : Ev (fun k => ledger_Right.j0 k false f n (r.map progD)) true := by
  refine Ev.step (fun k => ?_) hl
  rw [ledger_Right.j0, if_neg (by decide), List.length_map]; rfl
 refine Ev.congr (fun k => ?_) hj
 show ledger_Right.f k f n (r.map progD) = _
 unfold ledger_Right.f
 rw [if_neg (by omega), if_neg (by omega), e]
end Go.Proofs.YthhmpjapnkilcaaDoor.Ldg
