/- LedgerEvicts: what is evicted is pending for nobody, counted just for those for whom it was pending. Conditions: the law's own. -/
import Derived.Test.YthhmpjapnkilcaaDoorLdgMore
import Derived.Test.YthhmpjapnkilcaaDoorXLdgP5
import Derived.Test.YthhmpjapnkilcaaDoorXLdgP3
import Derived.Test.YthhmpjapnkilcaaDoorXLdgx29
namespace Go.Proofs.YthhmpjapnkilcaaDoor.Ldg
open Go.Proofs.YthhmpjapnkilcaaDoorW.PrintWords hiding encs
open Go.RowKit Go.Proofs.YthhmpjapnkilcaaDoorW.PrintLast Go.Proofs.YthhmpjapnkilcaaDoorW.PrintMore Go.Proofs.YthhmpjapnkilcaaDoor.Num Go.Proofs.YthhmpjapnkilcaaDoor.XLdg
set_option linter.unusedVariables false
set_option linter.unusedSimpArgs false
theorem posN_take (l : List Int) (t : Int) (i : Nat) (h : i < l.length) : posN (l.take (i + 1)) t = posN (l.take i) t + (if l[i] < t then 1 else 0) := by
  unfold posN
  rw [← List.take_append_getElem h, List.filter_append, List.length_append]
  by_cases c : l[i] < t
  · rw [if_pos c, List.filter_cons_of_pos (by simpa using c)]; rfl
  · rw [if_neg c, List.filter_cons_of_neg (by simpa using c)]; rfl
theorem u64_sum {a b : Nat} (ha : a ≤ 1000) (hb : b ≤ 1000) : Go.IntKind.u64.wrap ((a : Int) + (b : Int)) = ((a + b : Nat) : Int) := by
  rw [u64_small (by omega) (by omega)]; omega
/-- What the law asks of one destination. -/
theorem evicts_facts {f n : Int} {r : List RD} (h : Inv f n r) (t : Int) (h1 : f ≤ t) (h2 : t ≤ n) (i : Nat) (hi : i < r.length) :
    (progD (evR t r[i])).f5 = Go.IntKind.u64.wrap ((progD r[i]).f5 + ((posN (pendA r r[i].f0) t : Nat) : Int)) ∧ pendA (r.map (evR t)) r[i].f0 = (pendA r r[i].f0).drop (posN (pendA r r[i].f0) t) ∧ (t ≤ freeA n r → posN (pendA r r[i].f0) t = 0) := by
  have hm := List.getElem_mem hi
  have hI' := evict_inv h t h1 h2
  have hi' : i < (r.map (evR t)).length := by rw [List.length_map]; exact hi
  have hx : (r.map (evR t))[i] = evR t r[i] := List.getElem_map _
  have ep := pendA_at h i hi
  refine ⟨?_, ?_, fun c => ?_⟩
  · have hc := cnt_evict t r[i].f2 r[i].f1
    have hB : posN (pendA r r[i].f0) t ≤ 1000 := Nat.le_trans (posN_le _ _) (pendA_len h r[i].f0)
    have hA : cntN 101 r[i].f2 ≤ 1000 := by
      have q1 := cnt_len r[i].f2 101
      have q2 := (h.all _ hm).next
      have q3 := (h.all _ hm).since
      have q4 := h.n1
      clear hc hB hx ep hI' hi'
      omega
    show ((cntN 101 (evS t r[i].f1 r[i].f2) : Nat) : Int) = Go.IntKind.u64.wrap (((cntN 101 r[i].f2 : Nat) : Int) + ((posN (pendA r r[i].f0) t : Nat) : Int))
    rw [u64_sum hA hB, hc, ep]
  · have := pendA_at hI' i hi'
    rw [hx] at this
    rw [ep]
    exact this.trans (pend_evict t r[i].f2 r[i].f1)
  · unfold posN
    rw [List.length_eq_zero_iff, List.filter_eq_nil_iff]
    intro y hy
    have hP : isP r[i] y := by rw [ep] at hy; exact (mem_pendL_isP _ _).1 hy
    have hno := (free_first h y).1
    rcases Int.lt_or_le y t with g | g
    · exact absurd hP (hno (Int.lt_of_lt_of_le g c) _ hm)
    · simpa using g
theorem evicts_tail (p q : List Int) (t fr n : Int) (z : Nat) (hq : q.length < 1000000000000000000) (hz : z ≤ p.length) (hp : q = p.drop z) (P : List D) (nm : ByteArray) (hpe : Ev (fun k => ledger_Pending.f k t n P nm) q) (o : Nat → Option Bool) (ih : Ev o true) :
    Ev (fun k => (ledger_Pending.f k t n P nm).bind fun t589 => (if 0 ≤ ((z : Nat) : Int) then (if ((z : Nat) : Int) ≤ (p.length : Int) then ((postroomref10_Same.f k t589 (p.drop (((z : Nat) : Int)).toNat)).bind fun t596 => (if t596 = true then (o k) else (none))) else (none)) else (none))) true := by
  have hsame : Ev (fun k => postroomref10_Same.f k q (p.drop (((z : Nat) : Int)).toNat)) true := by
    rw [Int.toNat_natCast, ← hp]
    exact same_self hq
  refine Ev.bind hpe ?_
  refine Ev.congr (fun k => (if_pos (Int.natCast_nonneg _)).trans (if_pos (Int.ofNat_le.2 hz))) ?_
  exact Ev.bind hsame (Ev.congr (fun k => if_pos rfl) ih)
theorem evicts_l1 {f n : Int} {r : List RD} (h : Inv f n r) (t : Int) (h1 : f ≤ t) (h2 : t ≤ n) (i : Nat) (hi : i < r.length)
    (ih : Ev (fun k => postroomlaw10_LedgerEvicts.l0 k t (freeA n r) ((i + 1 : Nat) : Int) f n (r.map progD) t n ((r.map (evR t)).map progD)) true) :
    ∀ (d j : Nat), j + d = (pendA r r[i].f0).length → Ev (fun k => postroomlaw10_LedgerEvicts.l1 k t (freeA n r) (i : Int) (pendA r r[i].f0) ((posN ((pendA r r[i].f0).take j) t : Nat) : Int) (j : Int) f n (r.map progD) t n ((r.map (evR t)).map progD)) true := by
  obtain ⟨g1, ep', hz⟩ := evicts_facts h t h1 h2 i hi
  have hI' := evict_inv h t h1 h2
  have hi' : i < (r.map (evR t)).length := by rw [List.length_map]; exact hi
  have hrd' := rdP (r.map (evR t)) i hi'
  rw [show (r.map (evR t))[i] = evR t r[i] from List.getElem_map _] at hrd'
  have hrd0 := rdP r i hi
  have hpe := pending_law hI' r[i].f0
  rw [ep'] at hpe
  have hlen := pendA_len h r[i].f0
  have hl1 : (i : Int) < (((r.map (evR t)).map progD).length : Int) := by rw [List.length_map, List.length_map]; exact Int.ofNat_lt.2 hi
  have hl2 : (i : Int) < ((r.map progD).length : Int) := by rw [List.length_map]; exact Int.ofNat_lt.2 hi
  have e : wrap64 ((i : Int) + 1) = ((i + 1 : Nat) : Int) := w_nat (by have := h.few; clear hpe hlen hl1 hl2 hrd' hrd0 g1 ep' hz; omega)
  have hnm : (progD r[i]).f0 = r[i].f0 := rfl
  generalize pendA r r[i].f0 = p at g1 hz hpe hlen ⊢
  intro d
  induction d with
  | zero =>
    intro j hj
    have ej : p.take j = p := List.take_of_length_le (by omega)
    have hjl : ¬ (j : Int) < (p.length : Int) := by omega
    rw [ej]
    have tail := evicts_tail p (p.drop (posN p t)) t (freeA n r) n (posN p t) (by rw [List.length_drop]; omega) (posN_le p t) rfl ((r.map (evR t)).map progD) r[i].f0 hpe _ ih
    refine Ev.step (f := fun k => if t ≤ freeA n r then (if ((posN p t : Nat) : Int) > 0 then none else _) else _) (fun k => by rw [postroomlaw10_LedgerEvicts.l1, if_neg hjl, if_pos (Int.natCast_nonneg i), if_pos hl1, if_pos hl2, hrd', hrd0, if_pos g1, e]) ?_
    by_cases c : t ≤ freeA n r
    · have hz0 : ¬ ((posN p t : Nat) : Int) > 0 := by rw [hz c]; omega
      exact Ev.congr (fun k => (if_pos c).trans (if_neg hz0)) tail
    · exact Ev.congr (fun k => if_neg c) tail
  | succ d ihd =>
    intro j hj
    have hlt : j < p.length := by omega
    have e1 := w_nat (i := j) (by omega)
    have hp := posN_take p t j hlt
    have hpl : posN (p.take j) t ≤ 1000 := Nat.le_trans (posN_le _ _) (Nat.le_trans (List.take_sublist j p).length_le hlen)
    have ihj := ihd (j + 1) (by omega)
    have hrd := rd_at p j hlt
    have b1 : (j : Int) < (p.length : Int) := Int.ofNat_lt.2 hlt
    by_cases c : p[j] < t
    · rw [if_pos c] at hp
      rw [hp] at ihj
      have e2 : Go.IntKind.u64.wrap (((posN (p.take j) t : Nat) : Int) + 1) = ((posN (p.take j) t + 1 : Nat) : Int) := u64_sum (b := 1) hpl (by decide)
      refine Ev.step (fun k => ?_) ihj
      rw [postroomlaw10_LedgerEvicts.l1, if_pos b1, if_pos (Int.natCast_nonneg j), hrd, if_pos c, e1, e2]
    · rw [if_neg c] at hp
      rw [hp] at ihj
      simp only [Nat.add_zero] at ihj
      refine Ev.step (fun k => ?_) ihj
      rw [postroomlaw10_LedgerEvicts.l1, if_pos b1, if_pos (Int.natCast_nonneg j), hrd, if_neg c, e1]
theorem evicts_l0 {f n : Int} {r : List RD} (h : Inv f n r) (t : Int) (h1 : f ≤ t) (h2 : t ≤ n) : ∀ (d i : Nat), i + d = r.length → Ev (fun k => postroomlaw10_LedgerEvicts.l0 k t (freeA n r) (i : Int) f n (r.map progD) t n ((r.map (evR t)).map progD)) true
  | 0, i, hi => by
    have hI' := evict_inv h t h1 h2
    have hf := h.f1
    have hn1 := h.n1
    have u1 : Go.IntKind.u64.wrap (t - 1) = t - 1 := u64_small (by omega) (by omega)
    have u2 : Go.IntKind.u64.wrap (n + 1) = n + 1 := u64_small (by omega) (by omega)
    have v1 : ∀ k, ledger_Evict.f k t n ((r.map (evR t)).map progD) (t - 1) = some (0, 0, [], 1) := fun k => by
      rw [evict_law hI' k (t - 1), if_neg (by omega)]
    have v2 : ∀ k, ledger_Evict.f k t n ((r.map (evR t)).map progD) (n + 1) = some (0, 0, [], 1) := fun k => by
      rw [evict_law hI' k (n + 1), if_neg (by omega)]
    refine Ev.step (fun k => by rw [postroomlaw10_LedgerEvicts.l0, if_neg (by rw [List.length_map]; omega), u1, u2]) ?_
    exact Ev.bind ⟨0, fun k _ => v1 k⟩ (Ev.bind ⟨0, fun k _ => v2 k⟩ (Ev.congr (fun k => if_pos rfl) (Ev.now _)))
  | d + 1, i, hi => by
    have hlt : i < r.length := by omega
    have ih := evicts_l0 h t h1 h2 d (i + 1) (by omega)
    refine Ev.step (fun k => by rw [postroomlaw10_LedgerEvicts.l0, if_pos (by rw [List.length_map]; omega), if_pos (by omega), rdP r i hlt]) ?_
    refine Ev.bind (pending_law h r[i].f0) ?_
    exact evicts_l1 h t h1 h2 i hlt ih (pendA r r[i].f0).length 0 (by omega)
end Go.Proofs.YthhmpjapnkilcaaDoor.Ldg
namespace Go.Proofs.YthhmpjapnkilcaaDoor
open Go.Proofs.YthhmpjapnkilcaaDoorW.PrintWords hiding encs
open Go.RowKit Go.Proofs.YthhmpjapnkilcaaDoorW.PrintLast Go.Proofs.YthhmpjapnkilcaaDoorW.PrintMore Go.Proofs.YthhmpjapnkilcaaDoor.Num Go.Proofs.YthhmpjapnkilcaaDoor.XLdg Go.Proofs.YthhmpjapnkilcaaDoor.Ldg
theorem Pure.LedgerEvicts : XLdg.postroomlaw10_LedgerEvicts.Pure := by
  intro l a1 hm hy hw h1
  have key : Ev (fun k => postroomlaw10_LedgerEvicts.f k l a1) true := by
    unfold postroomlaw10_LedgerEvicts.f
    refine Ev.bind shown_ev (Ev.congr (fun k => if_pos rfl) ?_)
    by_cases c : (l.length : Int) > 100
    · exact Ev.congr (fun k => if_pos c) (Ev.now _)
    · obtain ⟨hI, hN⟩ := run_inv l (by omega)
      have hr := run_ev l (by omega) (wf_acts hw)
      generalize runA l = S at hI hN hr
      obtain ⟨f, n, r⟩ := S
      have hI' : Inv f n r := hI
      have hf1 := hI'.f1
      have hfn := hI'.fn
      have hn1 := hI'.n1
      refine Ev.congr (fun k => if_neg c) (Ev.bind hr ?_)
      obtain ⟨t, ht, t0, t1⟩ := pick_ev a1 (n - f + 1) (wf_i64 h1).1 (wf_i64 h1).2 (by omega)
      have e1 : Go.IntKind.u64.wrap (n - f) = n - f := u64_small (by omega) (by omega)
      have e2 : wrap64 (n - f) = n - f := w64 (by omega) (by omega)
      have e3 : wrap64 (n - f + 1) = n - f + 1 := w64 (by omega) (by omega)
      have ht' : postroomlaw10_pick.f a1 (wrap64 (wrap64 (Go.IntKind.u64.wrap (n - f)) + 1)) = some t := by rw [e1, e2, e3]; exact ht
      have e4 : Go.IntKind.u64.wrap t = t := u64_small (by omega) (by omega)
      have e5 : Go.IntKind.u64.wrap (f + t) = f + t := u64_small (by omega) (by omega)
      have hl1 : f ≤ f + t := by omega
      have hl2 : f + t ≤ n := by omega
      have hev : ∀ k, ledger_Evict.f k f n (r.map progD) (Go.IntKind.u64.wrap (f + Go.IntKind.u64.wrap t)) = some (f + t, n, (r.map (evR (f + t))).map progD, 0) := fun k => by
        rw [e4, e5, evict_law hI' k (f + t), if_pos ⟨hl1, hl2⟩]
      have hE := evict_inv hI' (f + t) hl1 hl2
      obtain ⟨q1, q2⟩ := free_evict hI' (f + t) hl1 hl2
      refine Ev.bind (Ev.fix ht') (Ev.bind ⟨0, fun k _ => hev k⟩ (Ev.bind (free_law hI') ?_))
      rw [e4, e5]
      refine Ev.congr (fun k => (if_pos rfl).trans ((if_pos rfl).trans ((if_pos rfl).trans (if_pos (by rw [List.length_map, List.length_map, List.length_map]))))) ?_
      refine Ev.bind (free_law hE) (Ev.congr (fun k => if_neg (Int.not_lt.2 q2)) (Ev.bind (free_law hE) (Ev.congr (fun k => if_neg (Int.not_lt.2 q1)) ?_)))
      exact evicts_l0 hI' (f + t) hl1 hl2 r.length 0 (by omega)
  obtain ⟨K, hK⟩ := key
  exact ⟨K, hK K (Nat.le_refl _)⟩
end Go.Proofs.YthhmpjapnkilcaaDoor
