/- The plain law of chapter 10, fifth part: one entry done, entries evicted, as the laws ask for it. Conditions: those that each theorem names. -/
import Derived.Test.YthhmpjapnkilcaaDoorLdgObs
import Derived.Test.YthhmpjapnkilcaaDoorXLdgP3
namespace Go.Proofs.YthhmpjapnkilcaaDoor.Ldg
open Go.Proofs.YthhmpjapnkilcaaDoorW.PrintWords hiding encs
open Go.RowKit Go.Proofs.YthhmpjapnkilcaaDoorW.PrintLast Go.Proofs.YthhmpjapnkilcaaDoorW.PrintMore Go.Proofs.YthhmpjapnkilcaaDoor.Num Go.Proofs.YthhmpjapnkilcaaDoor.XLdg
set_option linter.unusedVariables false
set_option linter.unusedSimpArgs false
theorem same_self {l : List Int} (hl : l.length < 1000000000000000000) : Ev (fun k => postroomref10_Same.f k l l) true := same_ev l hl
theorem Ev.fix {α : Type} {o : Option α} {r : α} (h : o = some r) : Ev (fun _ => o) r := ⟨0, fun _ _ => h⟩
theorem pendA_len {f n : Int} {r : List RD} (h : Inv f n r) (nm : ByteArray) : (pendA r nm).length ≤ 1000 := by
 unfold pendA
 split
 ·rename_i hp
  have hm := List.getElem_mem hp
  have h1 := (h.all _ hm).next
  have h2 := h.since _ hm
  have h3 := h.n1
  have h4 := cnt_len r[pN nm r].f2 112
  rw [pendL_len]; omega
 ·simp
theorem shown_ev : Ev (fun k => postroomlaw10_shown.f k) true := ⟨60, fun k hk => if_pos hk⟩
theorem wf_acts {l : List Act} (hw : ∀ x ∈ l, (Lit.int .i64 x.f0).wf = true ∧ (Lit.int .i64 x.f1).wf = true ∧ (Lit.int .i64 x.f2).wf = true ∧ (Lit.int .i64 x.f3).wf = true) : ∀ a ∈ l, wfA a := fun a ha => by
 obtain ⟨h0, h1, h2, h3⟩ := hw a ha
 exact ⟨wf_i64 h0, wf_i64 h1, wf_i64 h2, wf_i64 h3⟩
theorem pN_names {nm : ByteArray} : ∀ {r r' : List RD}, r.map (fun x => x.f0.toList) = r'.map (fun x => x.f0.toList) → pN nm r = pN nm r'
 | [], [], _ => rfl
 | [], y :: r', h => by simp at h
 | x :: r, [], h => by simp at h
 | x :: r, y :: r', h => by
  rw [List.map_cons, List.map_cons, List.cons.injEq] at h
  rw [pN, pN, h.1, pN_names h.2]
theorem pN_eq {f n : Int} {r : List RD} (h : Inv f n r) {nm : ByteArray} {i : Nat} (hi : i < r.length) (e : r[i].f0.toList = nm.toList) : pN nm r = i := by
 have h1 := pN_self h.apart i hi
 have h2 : ∀ (l : List RD) , pN nm l = pN r[i].f0 l := fun l => by
  induction l with
  | nil => rfl
  | cons y l ih => rw [pN, pN, ih, e]
 rw [h2]; exact h1
theorem pendA_at {f n : Int} {r : List RD} (h : Inv f n r) (i : Nat) (hi : i < r.length) : pendA r r[i].f0 = pendL r[i].f1 r[i].f2 := by
 have e := pN_self h.apart i hi
 unfold pendA
 rw [dif_pos (by rw [e]; exact hi)]
 simp only [e]
/-- One entry done. -/
def setR (r : List RD) (p i : Nat) (c : Int) (h : p < r.length) : List RD := r.set p (setD r[p] i c)
theorem setR_names (r : List RD) (p i : Nat) (c : Int) (h : p < r.length) : (setR r p i c h).map (fun x => x.f0.toList) = r.map (fun x => x.f0.toList) := set_names r p h _ rfl
theorem setR_len (r : List RD) (p i : Nat) (c : Int) (h : p < r.length) : (setR r p i c h).length = r.length := List.length_set
theorem setR_inv {f n : Int} {r : List RD} (h : Inv f n r) (p i : Nat) (c : Int) (hc : c = 97 ∨ c = 114) (hp : p < r.length) : Inv f n (setR r p i c hp) :=
 ⟨h.f1, h.fn, h.n1, by rw [setR_len]; exact h.few, fun x hx => by
  rcases List.mem_or_eq_of_mem_set hx with hx | rfl
  ·exact h.all x hx
  ·exact (h.all _ (List.getElem_mem hp)).done _ _ hc, by rw [setR_names]; exact h.apart⟩
theorem waits_at {f n : Int} {r : List RD} {nm : ByteArray} {seq : Int} (hw : waitsA r nm seq = true) : ∃ (hp : pN nm r < r.length) (i : Nat), r[pN nm r].f2[i]? = some 112 ∧ seq = r[pN nm r].f1 + (i : Int) := by
 classical
 unfold waitsA at hw
 by_cases hp : pN nm r < r.length
 ·rw [dif_pos hp] at hw
  obtain ⟨i, h1, h2⟩ := of_decide_eq_true hw
  exact ⟨hp, i, h1, h2⟩
 ·rw [dif_neg hp] at hw; exact absurd hw (by decide)
theorem done_yes {f n : Int} {r : List RD} (h : Inv f n r) (nm : ByteArray) (seq c : Int) (hc : c = 97 ∨ c = 114) (hp : pN nm r < r.length) (i : Nat) (h1 : r[pN nm r].f2[i]? = some 112) (h2 : seq = r[pN nm r].f1 + (i : Int)) :
  Ev (fun k => ledger_Done.f k f n (r.map progD) nm seq c) (f, n, (setR r (pN nm r) i c hp).map progD, 0) := by
 classical
 have hs := h.since _ (List.getElem_mem hp)
 have hl := done_law h nm seq c (by omega)
 have hP : isP r[pN nm r] seq := ⟨i, h1, h2⟩
 rw [dif_pos hp, if_pos hc, if_pos hP] at hl
 have ei : (seq - r[pN nm r].f1).toNat = i := by omega
 rw [ei] at hl
 exact hl
theorem done_state {f n : Int} {r : List RD} (h : Inv f n r) (nm : ByteArray) (seq c : Int) (hq : 0 ≤ seq) (hc : c = 97 ∨ c = 114) (hp : pN nm r < r.length) (hw : waitsA r nm seq = false) :
  Ev (fun k => ledger_Done.f k f n (r.map progD) nm seq c) (0, 0, [], 13) := by
 classical
 have hl := done_law h nm seq c hq
 have hP : ¬ isP r[pN nm r] seq := fun g => by
  unfold waitsA at hw
  rw [dif_pos hp] at hw
  exact of_decide_eq_false hw g
 rw [dif_pos hp, if_pos hc, if_neg hP] at hl
 exact hl
theorem setD_pend (x : RD) (i : Nat) (c : Int) (hc : c ≠ 112) (j : Nat) : (setD x i c).f2[j]? = some 112 ↔ x.f2[j]? = some 112 ∧ j ≠ i := by
 show (x.f2.set i c)[j]? = some 112 ↔ _
 rw [List.getElem?_set]
 by_cases e : i = j
 ·subst e
  rw [if_pos rfl]
  constructor
  ·intro g
   split at g
   ·exact absurd (Option.some.inj g) hc
   ·cases g
  ·rintro ⟨_, g⟩; exact absurd rfl g
 ·rw [if_neg e]
  constructor
  ·exact fun g => ⟨g, fun g2 => e g2.symm⟩
  ·exact fun g => g.1
theorem setR_at (r : List RD) (p i : Nat) (c : Int) (h : p < r.length) (h2 : p < (setR r p i c h).length) : (setR r p i c h)[p] = setD r[p] i c := List.getElem_set_self _
theorem setR_far (r : List RD) (p i : Nat) (c : Int) (h : p < r.length) (q : Nat) (hq : q < r.length) (hne : p ≠ q) (h2 : q < (setR r p i c h).length) : (setR r p i c h)[q] = r[q] := List.getElem_set_ne hne _
theorem waits_setR {f n : Int} {r : List RD} (h : Inv f n r) (nm : ByteArray) (hp : pN nm r < r.length) (i : Nat) (c : Int) (hc : c = 97 ∨ c = 114) (seq : Int) :
  waitsA (setR r (pN nm r) i c hp) nm seq = true ↔ waitsA r nm seq = true ∧ seq ≠ r[pN nm r].f1 + (i : Int) := by
 classical
 have hc' : c ≠ 112 := by rcases hc with rfl | rfl <;> decide
 have e : pN nm (setR r (pN nm r) i c hp) = pN nm r := pN_names (setR_names r (pN nm r) i c hp)
 have hlt : pN nm (setR r (pN nm r) i c hp) < (setR r (pN nm r) i c hp).length := by rw [e, setR_len]; exact hp
 have hx : (setR r (pN nm r) i c hp)[pN nm (setR r (pN nm r) i c hp)] = setD r[pN nm r] i c := by
  simp only [e]; exact setR_at _ _ _ _ _ _
 unfold waitsA
 rw [dif_pos hlt, dif_pos hp, decide_eq_true_iff, decide_eq_true_iff, hx]
 constructor
 ·rintro ⟨j, g1, g2⟩
  obtain ⟨g3, g4⟩ := (setD_pend _ i c hc' j).1 g1
  have g2' : seq = r[pN nm r].f1 + (j : Int) := g2
  exact ⟨⟨j, g3, g2'⟩, by omega⟩
 ·rintro ⟨⟨j, g1, g2⟩, g3⟩
  exact ⟨j, (setD_pend _ i c hc' j).2 ⟨g1, fun e => g3 (by rw [g2, e])⟩, g2⟩
theorem cnt_p_set (l : List Int) (i : Nat) (c : Int) (hc : c ≠ 112) (h : l[i]? = some 112) : cntN 112 (l.set i c) + 1 = cntN 112 l := by
 have := cnt_set 112 112 c l i h
 rw [if_pos rfl, if_neg hc] at this
 exact this
/-- Entries evicted. -/
theorem evict_inv {f n : Int} {r : List RD} (h : Inv f n r) (t : Int) (h1 : f ≤ t) (h2 : t ≤ n) : Inv t n (r.map (evR t)) :=
 ⟨by have := h.f1; omega, h2, h.n1, by rw [List.length_map]; exact h.few, fun x hx => by
  obtain ⟨y, hy, rfl⟩ := List.mem_map.1 hx
  exact (h.all y hy).ev, by rw [ev_names]; exact h.apart⟩
theorem low_evict {f n : Int} {x : RD} (h : DI f n x) (t : Int) (ht : t ≤ n) : t ≤ (evR t x).f1 + (lowN (evR t x).f2 : Int) ∧ x.f1 + (lowN x.f2 : Int) ≤ (evR t x).f1 + (lowN (evR t x).f2 : Int) := by
 have hE : DI t n (evR t x) := h.ev
 have hl := lowN_le (evR t x).f2
 have hn := hE.next
 have he : (evR t x).f1 = x.f1 := rfl
 constructor
 ·by_cases c : lowN (evR t x).f2 < (evR t x).f2.length
  ·have := isP_lt hE (low_isP c); omega
  ·omega
 ·have hx : lowN x.f2 ≤ lowN (evS t x.f1 x.f2) := low_ge _ _ (by rw [evS_len]; exact lowN_le _) (fun i hi g => low_before x.f2 i hi ((evS_pend t x.f2 x.f1 i).1 g).1)
  show x.f1 + (lowN x.f2 : Int) ≤ x.f1 + (lowN (evS t x.f1 x.f2) : Int)
  omega
theorem free_evict {f n : Int} {r : List RD} (h : Inv f n r) (t : Int) (h1 : f ≤ t) (h2 : t ≤ n) : t ≤ freeA n (r.map (evR t)) ∧ freeA n r ≤ freeA n (r.map (evR t)) := by
 obtain ⟨g1, g2, g3⟩ := free_le (r.map (evR t)) n
 obtain ⟨q1, q2, q3⟩ := free_le r n
 rcases g3 with g3 | ⟨y, hy, g3⟩
 ·omega
 ·obtain ⟨x, hx, rfl⟩ := List.mem_map.1 hy
  have := low_evict (h.all x hx) t h2
  have := q2 x hx
  omega
theorem pend_evict (t : Int) (l : List Int) (x : Int) : pendL x (evS t x l) = (pendL x l).drop (posN (pendL x l) t) := by
 have hs := pendL_sorted l x
 obtain ⟨f1, f2⟩ := filter_lt_take (pendL x l) t hs
 refine sort_eq _ _ (pendL_sorted _ _) (hs.sublist (List.drop_sublist _ _)) (fun y => ?_)
 rw [mem_pendL]
 constructor
 ·rintro ⟨i, g1, g2⟩
  obtain ⟨g3, g4⟩ := (evS_pend t l x i).1 g1
  have hy : y ∈ pendL x l := (mem_pendL l x y).2 ⟨i, g3, g2⟩
  rw [← List.take_append_drop (posN (pendL x l) t) (pendL x l), List.mem_append] at hy
  rcases hy with hy | hy
  ·rw [← f1, List.mem_filter] at hy
   have := of_decide_eq_true hy.2
   omega
  ·exact hy
 ·intro hy
  have h1 := f2 y hy
  obtain ⟨i, g1, g2⟩ := (mem_pendL l x y).1 (List.mem_of_mem_drop hy)
  exact ⟨i, (evS_pend t l x i).2 ⟨g1, by omega⟩, g2⟩
theorem cnt_evict (t : Int) : ∀ (l : List Int) (x : Int), cntN 101 (evS t x l) = cntN 101 l + posN (pendL x l) t
 | [], x => rfl
 | b :: r, x => by
  have ih := cnt_evict t r (x + 1)
  rw [evS]
  unfold pendL
  by_cases c : b = 112
  ·subst c
   rw [if_pos rfl, cntN_s (show (112 : Int) ≠ 101 by decide)]
   by_cases c2 : x < t
   ·rw [if_pos ⟨c2, rfl⟩, cntN_p rfl, ih]
    unfold posN
    rw [List.filter_cons_of_pos (by simpa using c2), List.length_cons]; omega
   ·rw [if_neg (fun g => c2 g.1), cntN_s (show (112 : Int) ≠ 101 by decide), ih]
    unfold posN
    rw [List.filter_cons_of_neg (by simpa using c2)]
  ·rw [if_neg c, if_neg (fun g => c g.2)]
   by_cases c2 : b = 101
   ·rw [cntN_p c2, cntN_p c2, ih]; omega
   ·rw [cntN_s c2, cntN_s c2, ih]
end Go.Proofs.YthhmpjapnkilcaaDoor.Ldg
