/- MarkTells: the bytes of any ledger, and the ledger of any bytes, or what is wrong, and whether a ledger is right, are as the chapters say. Conditions: the law's own. -/
import Derived.Test.YtmbigoeldobaiaaDoorMrkRef
import Derived.Test.YtmbigoeldobaiaaDoorXMrkP1
import Derived.Test.YtmbigoeldobaiaaDoorXMrkP3
import Derived.Test.YtmbigoeldobaiaaDoorXMrkP4
import Derived.Test.YtmbigoeldobaiaaDoorXMrkP5
namespace Go.Proofs.YtmbigoeldobaiaaDoor.Mrk
open Go.Proofs.YtmbigoeldobaiaaDoorW.PrintWords hiding encs
open Go.RowKit Go.Proofs.YtmbigoeldobaiaaDoorW.PrintLast Go.Proofs.YtmbigoeldobaiaaDoorW.PrintMore Go.Proofs.YtmbigoeldobaiaaDoor.Num Go.Proofs.YtmbigoeldobaiaaDoor.XMrk Go.Proofs.YtmbigoeldobaiaaDoor.Nam
set_option linter.unusedVariables false
set_option linter.unusedSimpArgs false
theorem few_l0 (first next : Int) (ds : List D) (hl : ds.length ≤ 9223372036854775807) : ∀ (m i : Nat), i + m = ds.length → ∃ b, Ev (fun k => postroomlaw11_few.l0 k (i : Int) first next ds) b ∧ (b = true → ds.length ≤ 10 ∧ ∀ d ∈ ds.drop i, d.f3.length ≤ 100 ∧ d.f0.size ≤ 100)
 | 0, i, hi => by
  refine ⟨decide ((ds.length : Int) ≤ 10), Ev.stop fun k => by rw [postroomlaw11_few.l0, if_neg (by omega)], fun h => ?_⟩
  have := of_decide_eq_true h
  rw [List.drop_eq_nil_of_le (by omega)]
  exact ⟨by omega, fun d hd => by cases hd⟩
 | m + 1, i, hi => by
  have hlt : i < ds.length := by omega
  have hs : ∀ k, postroomlaw11_few.l0 (k + 1) (i : Int) first next ds = if ((ds[i]).f3.length : Int) > 100 then some false else if ((ds[i]).f0.size : Int) > 100 then some false else postroomlaw11_few.l0 k ((i + 1 : Nat) : Int) first next ds := fun k => by
   rw [postroomlaw11_few.l0, if_pos (by omega), if_pos (by omega), rdD ds i hlt, w_succ (by omega)]
  by_cases c1 : ((ds[i]).f3.length : Int) > 100
  ·exact ⟨false, Ev.stop fun k => (hs k).trans (if_pos c1), fun h => by cases h⟩
  ·by_cases c2 : ((ds[i]).f0.size : Int) > 100
   ·exact ⟨false, Ev.stop fun k => (hs k).trans ((if_neg c1).trans (if_pos c2)), fun h => by cases h⟩
   ·obtain ⟨b, hb, hT⟩ := few_l0 first next ds hl m (i + 1) (by omega)
    refine ⟨b, Ev.step (fun k => (hs k).trans ((if_neg c1).trans (if_neg c2))) hb, fun h => ?_⟩
    obtain ⟨g1, g2⟩ := hT h
    refine ⟨g1, fun d hd => ?_⟩
    rw [List.drop_eq_getElem_cons hlt] at hd
    rcases List.mem_cons.1 hd with rfl | hd
    ·exact ⟨by omega, by omega⟩
    ·exact g2 d hd
theorem as_l0 (first next : Int) (ds : List D) (hl : ds.length ≤ 1000000000000) : ∀ (m i : Nat), i + m = ds.length → Ev (fun k => postroomlaw11_asLedger.l0 k (i : Int) first next ds first next ((ds.take i).map cv)) (first, next, ds.map cv)
 | 0, i, hi => by
  rw [List.take_of_length_le (by omega)]
  exact Ev.stop fun k => by rw [postroomlaw11_asLedger.l0, if_neg (by omega)]
 | m + 1, i, hi => by
  have hlt : i < ds.length := by omega
  refine Ev.step (fun k => by rw [postroomlaw11_asLedger.l0, if_pos (by omega), if_pos (by omega), if_pos (by rw [List.length_map, List.length_take]; omega), rdD ds i hlt, w_succ (by omega)]) ?_
  have := as_l0 first next ds hl m (i + 1) (by omega)
  rw [List.take_succ_eq_append_getElem hlt, List.map_append] at this
  exact this
theorem as_f (first next : Int) (ds : List D) (hl : ds.length ≤ 1000000000000) : Ev (fun k => postroomlaw11_asLedger.f k first next ds) (first, next, ds.map cv) := by
 have := as_l0 first next ds hl ds.length 0 (by omega)
 exact this
theorem si_l0 (l : List Int) (hl : l.length ≤ 1000000000000) : ∀ (m i : Nat), i + m = l.length → Ev (fun k => postroomref11_sameInts.l0 k l l (i : Int)) true
 | 0, i, hi => Ev.stop fun k => by rw [postroomref11_sameInts.l0, if_neg (by omega)]
 | m + 1, i, hi => by
  refine Ev.step (fun k => by rw [postroomref11_sameInts.l0, if_pos (by omega), if_pos (by omega), if_pos (by omega), if_pos rfl, w_succ (by omega)]) ?_
  exact si_l0 l hl m (i + 1) (by omega)
theorem same_l0 (a b : Int) (l : List R) (hl : l.length ≤ 1000000000000) (ha : ∀ d ∈ l, d.f3.length ≤ 1000000000000) : ∀ (m i : Nat), i + m = l.length → Ev (fun k => postroomref11_Same.l0 k (i : Int) a b l a b l) true
 | 0, i, hi => Ev.stop fun k => by rw [postroomref11_Same.l0, if_neg (by omega)]
 | m + 1, i, hi => by
  have hlt : i < l.length := by omega
  have e : rd_T57 l (i : Int) = l[i] := by
   unfold rd_T57; rw [Int.toNat_natCast, List.getD_eq_getElem?_getD, List.getElem?_eq_getElem hlt]; rfl
  have h3 := ha l[i] (List.getElem_mem _)
  have hi3 : Ev (fun k => postroomref11_sameInts.f k (l[i]).f3 (l[i]).f3) true := by
   refine Ev.congr (fun k => by rw [postroomref11_sameInts.f, if_pos rfl]) ?_
   exact si_l0 _ h3 (l[i]).f3.length 0 (by omega)
  refine Ev.step (fun k => by rw [postroomref11_Same.l0, if_pos (by omega), if_pos (by omega), if_pos (by omega), if_pos rfl, if_pos rfl, if_pos rfl, if_pos rfl, if_pos rfl, if_pos rfl, e, w_succ (by omega)]) ?_
  refine Ev.bind hi3 (Ev.congr (fun k => if_pos rfl) ?_)
  exact same_l0 a b l hl ha m (i + 1) (by omega)
theorem same_f (a b : Int) (l : List R) (hl : l.length ≤ 1000000000000) (ha : ∀ d ∈ l, d.f3.length ≤ 1000000000000) : Ev (fun k => postroomref11_Same.f k a b l a b l) true := by
 refine Ev.congr (fun k => by rw [postroomref11_Same.f, if_pos rfl, if_pos rfl]) ?_
 refine Ev.step (fun k => by rw [postroomref11_Same.j0, if_neg (by simp)]) ?_
 exact same_l0 a b l hl ha l.length 0 (by omega)
/-- The chapter's example. -/
def ex : List D := [⟨⟨#[97]⟩, 1, 1, [2], 1, 0, 0⟩]
theorem ex_right : rightL 1 4 ex = true := by decide +kernel
theorem ex_wf : WFL 1 4 ex := ⟨by unfold U; omega, by unfold U; omega, fun d hd => by
 unfold ex at hd
 rw [List.mem_singleton] at hd
 subst hd
 refine ⟨⟨by unfold U; simp, by unfold U; simp, fun a ha => ?_, by unfold U; simp, by unfold U; simp, by unfold U; simp⟩, by simp⟩
 simp only [List.mem_singleton] at ha
 subst ha; unfold U; omega⟩
theorem ex_bytes : encL 1 4 ex = [1, 4, 1, 1, 97, 1, 1, 1, 0, 0, 1, 1] := by
 have e2 : IntKind.u64.wrap (2 - 1) = 1 := by decide
 have el : ls (⟨#[97]⟩ : ByteArray) = [97] := rfl
 simp only [encL, ex, encD, delt, encs_cons, encs_nil, List.flatMap_cons, List.flatMap_nil, List.append_nil, encT, el, e2, List.length_cons, List.length_nil]
 rw [show ((0 + 1 : Nat) : Int) = 1 from rfl, show (1 : Int).toNat = 1 from rfl, show (4 : Int).toNat = 4 from rfl, show (0 : Int).toNat = 0 from rfl, enc_small (by decide), enc_small (by decide), enc_small (by decide)]
 rfl
theorem take_nil : Ev (fun k => mark_Take.f k (⟨#[]⟩ : ByteArray)) err0 := by
 obtain ⟨r, h, hT⟩ := mtake_any [] (by simp)
 rcases hT with rfl | ⟨f, n, ds, rfl, _, _, e⟩
 ·exact h
 ·exfalso
  have e1 := bs_inj e
  unfold encL at e1
  rw [encs_cons] at e1
  have := enc_pos f.toNat
  have h1 := congrArg List.length e1
  simp only [List.length_nil, List.length_append] at h1
  omega
theorem shown_f : Ev (fun k => postroomlaw11_shown.f k) true := by
 have hp := mput_f ex_wf (by decide)
 rw [if_pos ex_right, ex_bytes] at hp
 refine Ev.bind hp (Ev.bind take_nil (Ev.congr (fun k => (if_pos rfl).trans (if_pos ?_)) (Ev.now _)))
 rw [bs_toList]
theorem wf_of (x : D) (h : x.f0.size ≤ maxLen ∧ (Lit.int .u64 x.f1).wf = true ∧ (Lit.int .u64 x.f2).wf = true ∧ (x.f3.length ≤ maxLen ∧ ∀ z ∈ x.f3, (Lit.int .u64 z).wf = true) ∧ (Lit.int .u64 x.f4).wf = true ∧ (Lit.int .u64 x.f5).wf = true ∧ (Lit.int .u64 x.f6).wf = true) : WFD x :=
 ⟨wf_u64 h.2.1, wf_u64 h.2.2.1, fun a ha => wf_u64 (h.2.2.2.1.2 a ha), wf_u64 h.2.2.2.2.1, wf_u64 h.2.2.2.2.2.1, wf_u64 h.2.2.2.2.2.2⟩
/-- Both takings, of whatever bytes. -/
theorem takes_eq (s : List UInt8) (hl : s.length ≤ 500000) : (Ev (fun k => mark_Take.f k (bs s)) err0 ∧ Ev (fun k => postroomref11_Take.f k (bs s)) rerr) ∨
  ∃ first next ds, Ev (fun k => mark_Take.f k (bs s)) (first, next, ds, 0) ∧ Ev (fun k => postroomref11_Take.f k (bs s)) (first, next, ds.map cv, 0) ∧ WFL first next ds ∧ rightL first next ds = true ∧ s = encL first next ds := by
 obtain ⟨p, hp, hP⟩ := mtake_any s hl
 obtain ⟨q, hq, hQ⟩ := rtake_any s hl
 rcases hP with rfl | ⟨f, n, ds, rfl, hw, hr, e⟩
 ·rcases hQ with rfl | ⟨f, n, ds, rfl, hw, hr, e⟩
  ·exact .inl ⟨hp, hq⟩
  ·have e1 := bs_inj e
   rw [e1] at hp hq
   have := Ev.uniq hp (mtake_put hw hr)
   cases this
 ·have e1 := bs_inj e
  have h2 := rtake_put hw hr (by rw [← e1]; exact hl)
  rw [← e1] at h2
  exact .inr ⟨f, n, ds, hp, h2, hw, hr, e1⟩
theorem tells (a0_0 a0_1 : Int) (ds : List D) (a1 : ByteArray) (h0 : (Lit.int .u64 a0_0).wf = true) (h1 : (Lit.int .u64 a0_1).wf = true) (hl : ds.length ≤ maxLen) (hw : ∀ x ∈ ds, (x.f0.size ≤ maxLen ∧ (Lit.int .u64 x.f1).wf = true ∧ (Lit.int .u64 x.f2).wf = true ∧ (x.f3.length ≤ maxLen ∧ ∀ z ∈ x.f3, (Lit.int .u64 z).wf = true) ∧ (Lit.int .u64 x.f4).wf = true ∧ (Lit.int .u64 x.f5).wf = true ∧ (Lit.int .u64 x.f6).wf = true)) (hs : a1.size ≤ 140737488351232) : ∃ k, postroomlaw11_MarkTells.f k a0_0 a0_1 ds a1 = some true := by
 refine Ev.rounds ?_
 by_cases hbig : ds.length ≤ 9223372036854775807
 ·obtain ⟨b, hb, hB⟩ := few_l0 a0_0 a0_1 ds hbig ds.length 0 (by omega)
  have hb' : Ev (fun k => postroomlaw11_few.f k a0_0 a0_1 ds) b := hb
  refine Ev.bind shown_f (Ev.bind hb' (Ev.congr (fun k => if_pos rfl) ?_))
  have hj : ∀ c : Bool, Ev (fun k => postroomlaw11_MarkTells.j0 k a1 true true a0_0 a0_1 ds) true := fun c => Ev.stop fun k => by rw [postroomlaw11_MarkTells.j0, if_pos rfl]
  cases b with
  | false => exact Ev.congr (fun k => if_neg (by decide)) (hj true)
  | true =>
   refine Ev.congr (fun k => if_pos rfl) ?_
   by_cases c : (a1.size : Int) > 2000
   ·rw [decide_eq_true c]; exact hj true
   ·rw [decide_eq_false c]
    obtain ⟨g1, g2⟩ := hB rfl
    rw [List.drop_zero] at g2
    obtain ⟨s, rfl⟩ := bs_list a1
    rw [bs_size] at c hs
    have hWL : WFL a0_0 a0_1 ds := ⟨wf_u64 h0, wf_u64 h1, fun d hd => ⟨wf_of d (hw d hd), by have := g2 d hd; omega⟩⟩
    have hnm : ∀ d ∈ ds, d.f0.size ≤ 9223372036854775807 := fun d hd => by have := g2 d hd; omega
    have hal : ∀ d ∈ ds, d.f3.length ≤ 1000000000000000000 := fun d hd => by have := g2 d hd; omega
    refine Ev.step (fun k => by rw [postroomlaw11_MarkTells.j0, if_neg (by decide)]) ?_
    refine Ev.bind (as_f a0_0 a0_1 ds (by omega)) (Ev.bind (mput_f hWL (by omega)) (Ev.bind (rput_law hWL (by omega) hnm) ?_))
    have hR1 := right_f a0_0 a0_1 ds (by omega) hal
    have hR2 := rright_f a0_0 a0_1 ds (by omega) hal hnm
    rcases takes_eq s (by omega) with ⟨t1, t2⟩ | ⟨f, n, es, t1, t2, w, r, e⟩
    ·refine Ev.bind t1 (Ev.bind t2 (Ev.bind hR1 (Ev.bind hR2 ?_)))
     refine Ev.congr (fun k => (if_pos (by simp)).trans ((if_pos rfl).trans (if_pos rfl))) ?_
     refine Ev.bind (as_f 0 0 [] (by simp)) (Ev.bind (same_f 0 0 [] (by simp) (fun d hd => by cases hd)) (Ev.congr (fun k => if_pos rfl) (Ev.now _)))
    ·have h4 := (rightL_name r).1
     refine Ev.bind t1 (Ev.bind t2 (Ev.bind hR1 (Ev.bind hR2 ?_)))
     refine Ev.congr (fun k => (if_pos (by simp)).trans ((if_pos rfl).trans (if_pos rfl))) ?_
     refine Ev.bind (as_f f n es (by omega)) (Ev.bind (same_f f n (es.map cv) (by rw [List.length_map]; omega) (fun d hd => ?_)) (Ev.congr (fun k => if_pos rfl) (Ev.now _)))
     obtain ⟨x, hx, rfl⟩ := List.mem_map.1 hd
     have := (w.all x hx).2
     show x.f3.length ≤ _
     omega
 ·exact absurd hl (by unfold maxLen; omega)
end Go.Proofs.YtmbigoeldobaiaaDoor.Mrk
namespace Go.Proofs.YtmbigoeldobaiaaDoor
theorem Pure.MarkTells : XMrk.postroomlaw11_MarkTells.Pure := fun a0_0 a0_1 l0_2 a1 h0 h1 h2 h3 h4 => Mrk.tells a0_0 a0_1 l0_2 a1 h0 h1 h2 h3 h4
end Go.Proofs.YtmbigoeldobaiaaDoor
