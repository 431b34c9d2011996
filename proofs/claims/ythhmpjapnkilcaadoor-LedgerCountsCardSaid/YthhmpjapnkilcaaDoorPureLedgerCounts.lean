/- LedgerCounts: of each destination all its entries are pending, or counted, once; counts never go down. Conditions: the law's own. -/
import Derived.Test.YthhmpjapnkilcaaDoorLdgMore
import Derived.Test.YthhmpjapnkilcaaDoorXLdgP1
import Derived.Test.YthhmpjapnkilcaaDoorXLdgP2
import Derived.Test.YthhmpjapnkilcaaDoorXLdgP5
import Derived.Test.YthhmpjapnkilcaaDoorXLdgP3
import Derived.Test.YthhmpjapnkilcaaDoorXLdgx26
namespace Go.Proofs.YthhmpjapnkilcaaDoor.Ldg
open Go.Proofs.YthhmpjapnkilcaaDoorW.PrintWords hiding encs
open Go.RowKit Go.Proofs.YthhmpjapnkilcaaDoorW.PrintLast Go.Proofs.YthhmpjapnkilcaaDoorW.PrintMore Go.Proofs.YthhmpjapnkilcaaDoor.Num Go.Proofs.YthhmpjapnkilcaaDoor.XLdg
set_option linter.unusedVariables false
set_option linter.unusedSimpArgs false
theorem nonP_all : ∀ l : List Int, nonP l + cntN 112 l = l.length
 | [] => rfl
 | b :: r => by
  have ih := nonP_all r
  by_cases c : b = 112
  ·rw [nonP_p c, cntN_p c, List.length_cons]; omega
  ·rw [nonP_s c, cntN_s c, List.length_cons]; omega
/-- A destination's entries that are done stay done. -/
structure Gr (x y : RD) : Prop where
 since : y.f1 = x.f1
 len : x.f2.length ≤ y.f2.length
 keep : ∀ (i : Nat) (b : Int), x.f2[i]? = some b → b ≠ 112 → y.f2[i]? = some b
theorem Gr.refl (x : RD) : Gr x x := ⟨rfl, Nat.le_refl _, fun _ _ h _ => h⟩
theorem cnt_grows (c : Int) (hc : c ≠ 112) : ∀ (l l' : List Int), l.length ≤ l'.length → (∀ (i : Nat) (b : Int), l[i]? = some b → b ≠ 112 → l'[i]? = some b) → cntN c l ≤ cntN c l'
 | [], _, _, _ => Nat.zero_le _
 | b :: r, [], h, _ => by simp at h
 | b :: r, b' :: r', h, hk => by
  have ih := cnt_grows c hc r r' (by simpa using h) (fun i z h1 h2 => by
   have := hk (i + 1) z (by rw [List.getElem?_cons_succ]; exact h1) h2
   rwa [List.getElem?_cons_succ] at this)
  by_cases e : b = c
  ·have := hk 0 b rfl (by rw [e]; exact hc)
   have e' : b' = b := by simpa using this
   rw [cntN_p e, cntN_p (e'.trans e)]; omega
  ·rw [cntN_s e]
   by_cases e' : b' = c
   ·rw [cntN_p e']; omega
   ·rw [cntN_s e']; exact ih
theorem Gr.cnt {x y : RD} (h : Gr x y) {c : Int} (hc : c ≠ 112) : cntN c x.f2 ≤ cntN c y.f2 := cnt_grows c hc _ _ h.len h.keep
theorem Gr.low {x y : RD} (h : Gr x y) : lowN x.f2 ≤ lowN y.f2 := low_ge _ _ (Nat.le_trans (lowN_le _) h.len) fun i hi g => by
 obtain ⟨b, h1, h2⟩ := low_done x.f2 i hi
 rw [h.keep i b h1 h2] at g
 exact h2 (Option.some.inj g)
theorem same_name {f n : Int} {r : List RD} (h : Inv f n r) {x y : RD} (hx : x ∈ r) (hy : y ∈ r) (e : x.f0.toList = y.f0.toList) : x = y := by
 obtain ⟨i, hi, rfl⟩ := List.mem_iff_getElem.1 hx
 obtain ⟨j, hj, rfl⟩ := List.mem_iff_getElem.1 hy
 have h1 := pN_eq h hi e
 have h2 := pN_eq h hj rfl
 have : i = j := by omega
 subst this; rfl
theorem doA_grows {f n : Int} {r : List RD} (h : Inv f n r) (kk : Int) (nm : ByteArray) (seq kd : Int) {f' n' : Int} {r' : List RD} (e : doA kk nm seq kd f n r = some (f', n', r')) (x y : RD) (hx : x ∈ r) (hy : y ∈ r') (hn : x.f0.toList = y.f0.toList) : Gr x y := by
 classical
 unfold doA at e
 by_cases c1 : kk < 4
 ·rw [if_pos c1] at e
  cases e
  obtain ⟨z, hz, rfl⟩ := List.mem_map.1 hy
  have := same_name h hx hz hn
  subst this
  exact ⟨rfl, by show x.f2.length ≤ (x.f2 ++ [112]).length; rw [List.length_append]; omega, fun i b h1 _ => by
   show (x.f2 ++ [112])[i]? = some b
   rw [List.getElem?_append_left (List.getElem?_eq_some_iff.1 h1).1]; exact h1⟩
 ·rw [if_neg c1] at e
  by_cases c2 : kk = 4
  ·rw [if_pos c2] at e
   split at e
   ·rename_i g
    cases e
    rcases List.mem_append.1 hy with hy | hy
    ·rw [same_name h hx hy hn]; exact Gr.refl _
    ·rw [List.mem_singleton.1 hy] at hn
     exact absurd hn (pN_none g.2.1 x hx)
   ·cases e
  ·rw [if_neg c2] at e
   by_cases c3 : kk = 5
   ·rw [if_pos c3] at e
    split at e
    ·cases e
     rw [same_name h hx (List.mem_of_mem_eraseIdx hy) hn]; exact Gr.refl _
    ·cases e
   ·rw [if_neg c3] at e
    by_cases c4 : kk < 10
    ·rw [if_pos c4] at e
     split at e
     ·rename_i hp
      split at e
      ·rename_i g
       obtain ⟨g1, i, g2, g3⟩ := g
       cases e
       rcases List.mem_or_eq_of_mem_set hy with hy | rfl
       ·rw [same_name h hx hy hn]; exact Gr.refl _
       ·have := same_name h hx (List.getElem_mem hp) hn
        subst this
        have ei : (seq - r[pN nm r].f1).toNat = i := by omega
        rw [ei]
        refine ⟨rfl, by show _ ≤ (r[pN nm r].f2.set i kd).length; rw [List.length_set]; omega, fun j b h1 h2 => ?_⟩
        show (r[pN nm r].f2.set i kd)[j]? = some b
        rw [List.getElem?_set_ne (fun e => by subst e; rw [g2] at h1; exact h2 (Option.some.inj h1).symm)]
        exact h1
      ·cases e
     ·cases e
    ·rw [if_neg c4] at e
     split at e
     ·cases e
      obtain ⟨z, hz, rfl⟩ := List.mem_map.1 hy
      have := same_name h hx hz hn
      subst this
      refine ⟨rfl, by show _ ≤ (evS seq x.f1 x.f2).length; rw [evS_len]; omega, fun i b h1 h2 => ?_⟩
      show (evS seq x.f1 x.f2)[i]? = some b
      rw [evS_get, h1, Option.map_some, if_neg (fun g => h2 g.2)]
     ·cases e
theorem stepA_grows {s : St} (h : InvS s) (a : Act) (x y : RD) (hx : x ∈ s.2.2) (hy : y ∈ (stepA s a).2.2) (hn : x.f0.toList = y.f0.toList) : Gr x y := by
 unfold stepA at hy
 cases e : doA ((postroomlaw10_pick.f a.f0 11).getD 0) ((postroomlaw10_name.f a.f1).getD ByteArray.empty) (Go.IntKind.u64.wrap a.f2) ((postroomlaw10_kind.f a.f3).getD 0) s.1 s.2.1 s.2.2 with
 | none =>
  rw [e] at hy
  have h' : Inv s.1 s.2.1 s.2.2 := h
  rw [same_name h' hx hy hn]; exact Gr.refl _
 | some s' =>
  rw [e] at hy
  exact doA_grows h _ _ _ _ e x y hx hy hn
theorem counts_l2 {f n f' n' : Int} {R R' : List S37} {x8 : Int} {nm : ByteArray} {p : List Int} {x1 x2 : Int} {x3 : List Int} {x4 x5 x6 : Int} (hp : p.length < 1000000) (ih : Ev (fun k => postroomlaw10_LedgerCounts.l0 k (wrap64 (x8 + 1)) f n R f' n' R') true) (hw : ∀ y ∈ p, y < n → Ev (fun k => ledger_Waits.f k f n R nm y) true) : ∀ (d j : Nat), j + d = p.length → Ev (fun k => postroomlaw10_LedgerCounts.l2 k x8 p (j : Int) f n R f' n' R' nm x1 x2 x3 x4 x5 x6) true
 | 0, j, hj => Ev.step (fun k => by rw [postroomlaw10_LedgerCounts.l2, if_neg (by omega)]) ih
 | d + 1, j, hj => by
  have hlt : j < p.length := by omega
  have e := w_nat (i := j) (by omega)
  have hrd := rd_at p j hlt
  have ihj := counts_l2 (x1 := x1) (x2 := x2) (x3 := x3) (x4 := x4) (x5 := x5) (x6 := x6) hp ih hw d (j + 1) (by omega)
  by_cases c : p[j] < n
  ·have hwl := hw p[j] (List.getElem_mem hlt) c
   generalize p[j] = y at hwl hrd c
   refine Ev.step (fun k => by rw [postroomlaw10_LedgerCounts.l2, if_pos (by omega), if_pos (by omega), hrd, if_pos c, e]) ?_
   exact Ev.bind hwl (Ev.congr (fun k => if_pos rfl) ihj)
  ·refine Ev.step (fun k => ?_) ihj
   rw [postroomlaw10_LedgerCounts.l2, if_pos (by omega), if_pos (by omega), hrd, if_neg c, e]
theorem counts_l1 {f n f' n' : Int} {R R' : List S37} {x8 : Int} {nm : ByteArray} {p : List Int} {x1 x2 : Int} {x3 : List Int} {x4 x5 x6 : Int} (hp : p.length < 1000000) (ih : Ev (fun k => postroomlaw10_LedgerCounts.l1 k x8 p (p.length : Int) f n R f' n' R' nm x1 x2 x3 x4 x5 x6) true) (hw : ∀ y ∈ p, Ev (fun k => ledger_Waits.f k f n R nm y) true) (hb : ∀ y ∈ p, x1 ≤ y ∧ f ≤ y ∧ y < n) (hs : List.Pairwise (· < ·) p) : ∀ (d j : Nat), j + d = p.length → Ev (fun k => postroomlaw10_LedgerCounts.l1 k x8 p (j : Int) f n R f' n' R' nm x1 x2 x3 x4 x5 x6) true
 | 0, j, hj => by
  have e : j = p.length := by omega
  rw [e]; exact ih
 | d + 1, j, hj => by
  have hlt : j < p.length := by omega
  have e := w_nat (i := j) (by omega)
  have hrd := rd_at p j hlt
  have ihj := counts_l1 hp ih hw hb hs d (j + 1) (by omega)
  have hwl := hw p[j] (List.getElem_mem hlt)
  obtain ⟨n1, n2, n3⟩ := hb p[j] (List.getElem_mem hlt)
  by_cases c : (j : Int) > 0
  ·obtain ⟨q, rfl⟩ : ∃ q, j = q + 1 := ⟨j - 1, by omega⟩
   have eq1 : wrap64 (((q + 1 : Nat) : Int) - 1) = (q : Int) := by rw [w64 (by omega) (by omega)]; omega
   have hrq := rd_at p q (by omega)
   have hs := List.pairwise_iff_getElem.1 hs q (q + 1) (by omega) hlt (by omega)
   generalize p[q + 1] = y at *
   generalize p[q] = z at *
   refine Ev.step (fun k => by rw [postroomlaw10_LedgerCounts.l1, if_pos (by omega), if_pos (by omega), hrd, if_neg (by omega), if_neg (by omega), if_neg (by omega), if_pos c, eq1, if_pos (by omega), if_pos (by omega), hrq, if_neg (by omega), e]) ?_
   exact Ev.bind hwl (Ev.congr (fun k => if_pos rfl) ihj)
  ·generalize p[j] = y at *
   refine Ev.step (fun k => by rw [postroomlaw10_LedgerCounts.l1, if_pos (by omega), if_pos (by omega), hrd, if_neg (by omega), if_neg (by omega), if_neg (by omega), if_neg c, e]) ?_
   exact Ev.bind hwl (Ev.congr (fun k => if_pos rfl) ihj)
/-- The end of the first inner loop: a destination that is there yet. -/
theorem counts_e1 {f n f' n' : Int} {R R' : List S37} {x8 : Int} {nm : ByteArray} {p : List Int} {x1 x2 : Int} {x3 : List Int} {x4 x5 x6 : Int} {y0 : ByteArray} {y1 y2 : Int} {y3 : List Int} {y4 y5 y6 : Int} {q : List Int} (hq : q.length < 1000000)
  (hf : ledger_Find.f f' n' R' nm = some (y0, y1, y2, y3, y4, y5, y6, true)) (c1 : x4 ≤ y4) (c2 : x5 ≤ y5) (c3 : x6 ≤ y6) (c4 : y1 = x1) (c5 : x2 ≤ y2)
  (hpd : Ev (fun k => ledger_Pending.f k f' n' R' nm) q)
  (ih : Ev (fun k => postroomlaw10_LedgerCounts.l0 k (wrap64 (x8 + 1)) f n R f' n' R') true) (hw : ∀ y ∈ q, y < n → Ev (fun k => ledger_Waits.f k f n R nm y) true) :
  Ev (fun k => postroomlaw10_LedgerCounts.l1 k x8 p (p.length : Int) f n R f' n' R' nm x1 x2 x3 x4 x5 x6) true := by
 refine Ev.step (fun k => by rw [postroomlaw10_LedgerCounts.l1, if_neg (by omega), hf]) ?_
 refine Ev.bind (Ev.fix rfl) ?_
 refine Ev.congr (fun k => (if_pos rfl).trans ((if_neg (Int.not_lt.2 c1)).trans ((if_neg (Int.not_lt.2 c2)).trans ((if_neg (Int.not_lt.2 c3)).trans ((if_pos c4).trans (if_neg (Int.not_lt.2 c5))))))) (Ev.bind hpd ?_)
 exact counts_l2 hq ih hw q.length 0 (by omega)
/-- ... and one that is not. -/
theorem counts_e0 {f n f' n' : Int} {R R' : List S37} {x8 : Int} {nm : ByteArray} {p : List Int} {x1 x2 : Int} {x3 : List Int} {x4 x5 x6 : Int} {v : ByteArray × Int × Int × List Int × Int × Int × Int × Bool}
  (hf : ledger_Find.f f' n' R' nm = some v) (hv : v.2.2.2.2.2.2.2 = false)
  (ih : Ev (fun k => postroomlaw10_LedgerCounts.l0 k (wrap64 (x8 + 1)) f n R f' n' R') true) :
  Ev (fun k => postroomlaw10_LedgerCounts.l1 k x8 p (p.length : Int) f n R f' n' R' nm x1 x2 x3 x4 x5 x6) true := by
 refine Ev.step (fun k => by rw [postroomlaw10_LedgerCounts.l1, if_neg (by omega), hf]) ?_
 exact Ev.bind (Ev.fix rfl) (Ev.congr (fun k => if_neg (by rw [hv]; exact Bool.false_ne_true)) ih)
theorem counts_l0 {f n f' n' : Int} {r r' : List RD} (h : Inv f n r) (h' : Inv f' n' r') (hg : ∀ x y, x ∈ r → y ∈ r' → x.f0.toList = y.f0.toList → Gr x y) (hff : f ≤ f') (hnn : n ≤ n') : ∀ (d i : Nat), i + d = r.length → Ev (fun k => postroomlaw10_LedgerCounts.l0 k (i : Int) f n (r.map progD) f' n' (r'.map progD)) true
 | 0, i, hi => by
  refine Ev.stop fun k => ?_
  rw [postroomlaw10_LedgerCounts.l0, if_neg (by rw [List.length_map]; omega), if_pos (by omega), decide_eq_true (show n' ≥ n from hnn)]
 | d + 1, i, hi => by
  have hlt : i < r.length := by omega
  have ih := counts_l0 h h' hg hff hnn d (i + 1) (by omega)
  have hfew := h.few
  have ew : wrap64 ((i : Int) + 1) = ((i + 1 : Nat) : Int) := w_nat (i := i) (by omega)
  have hD := h.all _ (List.getElem_mem hlt)
  have hn1 := h.n1
  have hnx := hD.next
  have hs1 := hD.since
  have hsum := nonP_sum r[i].f2 hD.stat
  have hall := nonP_all r[i].f2
  have hpl : (pendA r r[i].f0).length = cntN 112 r[i].f2 := by rw [pendA_at h i hlt, pendL_len]
  have hc : Go.IntKind.u64.wrap (Go.IntKind.u64.wrap (Go.IntKind.u64.wrap ((progD r[i]).f4 + (progD r[i]).f5) + (progD r[i]).f6) + Go.IntKind.u64.wrap (((pendA r r[i].f0).length : Int))) = Go.IntKind.u64.wrap (n - (progD r[i]).f1) := by
   show Go.IntKind.u64.wrap (Go.IntKind.u64.wrap (Go.IntKind.u64.wrap (((cntN 97 r[i].f2 : Nat) : Int) + ((cntN 101 r[i].f2 : Nat) : Int)) + ((cntN 114 r[i].f2 : Nat) : Int)) + Go.IntKind.u64.wrap (((pendA r r[i].f0).length : Int))) = Go.IntKind.u64.wrap (n - r[i].f1)
   rw [u64_small (x := ((cntN 97 r[i].f2 : Nat) : Int) + ((cntN 101 r[i].f2 : Nat) : Int)) (by omega) (by omega), u64_small (x := ((cntN 97 r[i].f2 : Nat) : Int) + ((cntN 101 r[i].f2 : Nat) : Int) + ((cntN 114 r[i].f2 : Nat) : Int)) (by omega) (by omega), u64_small (x := ((pendA r r[i].f0).length : Int)) (by omega) (by omega)]
   congr 1
   omega
  have hpd := pending_law h r[i].f0
  have hplen := pendA_len h r[i].f0
  have hso := pendA_sorted r r[i].f0
  have hbb : ∀ y ∈ pendA r r[i].f0, (progD r[i]).f1 ≤ y ∧ f ≤ y ∧ y < n := fun y hy => by
   have hin := isP_lt hD ((waitsA_at h i hlt _).1 (mem_pendA.1 hy))
   exact ⟨hin.2.1, hin.1, hin.2.2.2⟩
  have hww : ∀ y ∈ pendA r r[i].f0, Ev (fun k => ledger_Waits.f k f n (r.map progD) r[i].f0 y) true := fun y hy => by
   have := waits_law h r[i].f0 y
   rwa [mem_pendA.1 hy] at this
  have hend : Ev (fun k => postroomlaw10_LedgerCounts.l1 k (i : Int) (pendA r r[i].f0) ((pendA r r[i].f0).length : Int) f n (r.map progD) f' n' (r'.map progD) r[i].f0 (progD r[i]).f1 (progD r[i]).f2 (progD r[i]).f3 (progD r[i]).f4 (progD r[i]).f5 (progD r[i]).f6) true := by
   by_cases hp : pN r[i].f0 r' < r'.length
   ·have G := hg r[i] r'[pN r[i].f0 r'] (List.getElem_mem hlt) (List.getElem_mem hp) (pN_at hp).symm
    have c1 := G.cnt (show (97 : Int) ≠ 112 by decide)
    have c2 := G.cnt (show (101 : Int) ≠ 112 by decide)
    have c3 := G.cnt (show (114 : Int) ≠ 112 by decide)
    have c4 := G.low
    have c5 := G.since
    refine counts_e1 (Nat.lt_of_le_of_lt (pendA_len h' r[i].f0) (by omega)) (find_yes h' r[i].f0 hp) ?_ ?_ ?_ c5 ?_ (pending_law h' r[i].f0) (by rw [ew]; exact ih) ?_
    ·show ((cntN 97 r[i].f2 : Nat) : Int) ≤ ((cntN 97 r'[pN r[i].f0 r'].f2 : Nat) : Int); omega
    ·show ((cntN 101 r[i].f2 : Nat) : Int) ≤ ((cntN 101 r'[pN r[i].f0 r'].f2 : Nat) : Int); omega
    ·show ((cntN 114 r[i].f2 : Nat) : Int) ≤ ((cntN 114 r'[pN r[i].f0 r'].f2 : Nat) : Int); omega
    ·show r[i].f1 + (lowN r[i].f2 : Int) ≤ r'[pN r[i].f0 r'].f1 + (lowN r'[pN r[i].f0 r'].f2 : Int); omega
    ·intro y hy c
     have hP : isP r'[pN r[i].f0 r'] y := by
      have e1 : pendA r' r[i].f0 = pendL r'[pN r[i].f0 r'].f1 r'[pN r[i].f0 r'].f2 := by unfold pendA; rw [dif_pos hp]
      rw [e1] at hy; exact (mem_pendL_isP _ _).1 hy
     obtain ⟨q, g1, g2⟩ := hP
     have hq : q < r[i].f2.length := by omega
     have hwl := waits_law h r[i].f0 y
     have : waitsA r r[i].f0 y = true := by
      refine (waitsA_at h i hlt _).2 ⟨q, ?_, by omega⟩
      rw [List.getElem?_eq_getElem hq]
      by_cases c2 : r[i].f2[q] = 112
      ·rw [c2]
      ·have := G.keep q _ (List.getElem?_eq_getElem hq) c2
       rw [g1] at this
       exact absurd (Option.some.inj this).symm c2
     rwa [this] at hwl
   ·exact counts_e0 (find_no r[i].f0 hp) rfl (by rw [ew]; exact ih)
  have hall2 := counts_l1 (by omega) hend hww hbb hso (pendA r r[i].f0).length 0 (by omega)
  refine Ev.step (fun k => by rw [postroomlaw10_LedgerCounts.l0, if_pos (by rw [List.length_map]; omega), if_pos (by omega), rdP r i hlt]) ?_
  exact Ev.bind hpd (Ev.congr (fun k => if_pos hc) hall2)
end Go.Proofs.YthhmpjapnkilcaaDoor.Ldg
namespace Go.Proofs.YthhmpjapnkilcaaDoor
open Go.Proofs.YthhmpjapnkilcaaDoorW.PrintWords hiding encs
open Go.RowKit Go.Proofs.YthhmpjapnkilcaaDoorW.PrintLast Go.Proofs.YthhmpjapnkilcaaDoorW.PrintMore Go.Proofs.YthhmpjapnkilcaaDoor.Num Go.Proofs.YthhmpjapnkilcaaDoor.XLdg Go.Proofs.YthhmpjapnkilcaaDoor.Ldg
theorem Pure.LedgerCounts : XLdg.postroomlaw10_LedgerCounts.Pure := by
 intro l b0 b1 b2 b3 hm hy hw h0 h1 h2 h3
 have key : Ev (fun k => postroomlaw10_LedgerCounts.f k l b0 b1 b2 b3) true := by
  unfold postroomlaw10_LedgerCounts.f
  refine Ev.bind shown_ev (Ev.congr (fun k => if_pos rfl) ?_)
  by_cases c : (l.length : Int) > 100
  ·exact Ev.congr (fun k => if_pos c) (Ev.now _)
  ·obtain ⟨hI, hN⟩ := run_inv l (by omega)
   have hr := run_ev l (by omega) (wf_acts hw)
   have hW2 : ∀ a ∈ l ++ [(⟨b0, b1, b2, b3⟩ : S43)], wfA a := fun a ha => by
    rcases List.mem_append.1 ha with ha | ha
    ·exact wf_acts hw a ha
    ·rw [List.mem_singleton.1 ha]; exact ⟨wf_i64 h0, wf_i64 h1, wf_i64 h2, wf_i64 h3⟩
   have hr2 := run_ev (l ++ [(⟨b0, b1, b2, b3⟩ : S43)]) (by rw [List.length_append, List.length_singleton]; omega) hW2
   have es : runA (l ++ [(⟨b0, b1, b2, b3⟩ : S43)]) = stepA (runA l) ⟨b0, b1, b2, b3⟩ := by
    unfold runA; rw [List.foldl_append]; rfl
   rw [es] at hr2
   obtain ⟨g1, g2, g3, g4⟩ := stepA_inv hI (by omega) ⟨b0, b1, b2, b3⟩
   have hg := stepA_grows hI ⟨b0, b1, b2, b3⟩
   generalize stepA (runA l) ⟨b0, b1, b2, b3⟩ = S' at hr2 g1 g2 g3 g4 hg
   generalize runA l = S at hI hN hr g2 g3 g4 hg
   obtain ⟨f, n, r⟩ := S
   obtain ⟨f', n', r'⟩ := S'
   refine Ev.congr (fun k => if_neg c) (Ev.bind hr (Ev.bind (Ev.fix rfl) (Ev.congr (fun k => if_pos (by rw [List.length_nil]; omega)) (Ev.bind (Ev.fix rfl) (Ev.bind (Ev.fix rfl) (Ev.congr (fun k => if_pos (by rw [List.nil_append, List.length_singleton]; omega)) (Ev.bind hr2 ?_)))))))
   have hI' : Inv f n r := hI
   have g1' : Inv f' n' r' := g1
   exact counts_l0 hI' g1' (fun x y hx hy e => hg x y hx hy e) g4 g2 r.length 0 (Nat.zero_add _)
 obtain ⟨K, hK⟩ := key
 exact ⟨K, hK K (Nat.le_refl _)⟩
end Go.Proofs.YthhmpjapnkilcaaDoor
