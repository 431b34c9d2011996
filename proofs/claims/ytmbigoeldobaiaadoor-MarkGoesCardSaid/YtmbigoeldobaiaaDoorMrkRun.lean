/- The plain law of chapter 11: the ledger behind any acts. Conditions: those that each theorem names. -/
import Derived.Test.YtmbigoeldobaiaaDoorMrkLdg
import Derived.Test.YtmbigoeldobaiaaDoorMrkLaw
import Derived.Test.YtmbigoeldobaiaaDoorXMrkP1
import Derived.Test.YtmbigoeldobaiaaDoorXMrkx22
namespace Go.Proofs.YtmbigoeldobaiaaDoor.Mrk
open Go.Proofs.YtmbigoeldobaiaaDoorW.PrintWords hiding encs
open Go.RowKit Go.Proofs.YtmbigoeldobaiaaDoorW.PrintLast Go.Proofs.YtmbigoeldobaiaaDoorW.PrintMore Go.Proofs.YtmbigoeldobaiaaDoor.Num Go.Proofs.YtmbigoeldobaiaaDoor.XMrk
set_option linter.unusedVariables false
set_option linter.unusedSimpArgs false
abbrev MAct := S75
def wfM (a : MAct) : Prop := (-9223372036854775808 ≤ a.f0 ∧ a.f0 < 9223372036854775808) ∧ (-9223372036854775808 ≤ a.f1 ∧ a.f1 < 9223372036854775808) ∧ (-9223372036854775808 ≤ a.f2 ∧ a.f2 < 9223372036854775808)
theorem mpick_ev (a m : Int) (h0 : -9223372036854775808 ≤ a) (h1 : a < 9223372036854775808) (hm : 0 < m) : ∃ c, postroomlaw11_pick.f a m = some c ∧ 0 ≤ c ∧ c < m := by
 unfold postroomlaw11_pick.f
 by_cases c : a < 0
 ·rw [if_pos c, if_neg (by omega), Ldg.w64' (x := a + 1) (by omega) (by omega), Ldg.w64 (x := -(a + 1)) (by omega) (by omega)]
  exact ⟨_, rfl, Int.tmod_nonneg _ (by omega), Int.tmod_lt_of_pos _ hm⟩
 ·rw [if_neg c, if_neg (by omega)]
  exact ⟨_, rfl, Int.tmod_nonneg _ (by omega), Int.tmod_lt_of_pos _ hm⟩
def mnames : List ByteArray := [⟨#[97]⟩, ⟨#[98]⟩, ⟨#[99]⟩, ⟨#[122, 111, 110, 101]⟩]
def mname (c : Int) : ByteArray := rdOf ByteArray.empty mnames c
theorem mname_ok {c : Int} (h0 : 0 ≤ c) (h1 : c < 4) : mname c ∈ Ldg.okNames := by
 have : c = 0 ∨ c = 1 ∨ c = 2 ∨ c = 3 := by omega
 rcases this with rfl | rfl | rfl | rfl
 ·exact (show (⟨#[97]⟩ : ByteArray) ∈ Ldg.okNames by simp [Ldg.okNames])
 ·exact (show (⟨#[98]⟩ : ByteArray) ∈ Ldg.okNames by simp [Ldg.okNames])
 ·exact (show (⟨#[99]⟩ : ByteArray) ∈ Ldg.okNames by simp [Ldg.okNames])
 ·exact (show (⟨#[122, 111, 110, 101]⟩ : ByteArray) ∈ Ldg.okNames by simp [Ldg.okNames])
def mkind (c : Int) : Int := rd [97, 114] c
/-- The number that an act speaks of. -/
def seqM (f : Int) (a : MAct) : Int := if (postroomlaw11_pick.f a.f0 11).getD 0 < 10 then IntKind.u64.wrap (1 + IntKind.u64.wrap ((postroomlaw11_pick.f a.f2 20).getD 0)) else IntKind.u64.wrap (f + IntKind.u64.wrap ((postroomlaw11_pick.f a.f2 3).getD 0))
/-- An act, on a ledger as the document has it. -/
noncomputable def stepM (s : Ldg.St) (a : MAct) : Ldg.St :=
 (Ldg.doA ((postroomlaw11_pick.f a.f0 11).getD 0) (mname ((postroomlaw11_pick.f a.f1 4).getD 0)) (seqM s.1 a) (mkind ((postroomlaw11_pick.f a.f2 2).getD 0)) s.1 s.2.1 s.2.2).getD s
theorem stepM_inv {s : Ldg.St} (h : Ldg.InvS s) (hn : s.2.1 < 1000) (a : MAct) : Ldg.InvS (stepM s a) ∧ (stepM s a).2.1 ≤ s.2.1 + 1 := by
 unfold stepM
 generalize seqM s.1 a = q
 cases e : Ldg.doA ((postroomlaw11_pick.f a.f0 11).getD 0) (mname ((postroomlaw11_pick.f a.f1 4).getD 0)) q (mkind ((postroomlaw11_pick.f a.f2 2).getD 0)) s.1 s.2.1 s.2.2 with
 | none => exact ⟨h, by simp; omega⟩
 | some s' =>
  obtain ⟨g1, g2, g3, g4⟩ := Ldg.doA_inv h hn _ _ _ _ e
  exact ⟨g1, g3⟩
noncomputable def runM (acts : List MAct) : Ldg.St := acts.foldl stepM (1, 1, [])
theorem foldM_inv : ∀ (l : List MAct) (s : Ldg.St), Ldg.InvS s → s.2.1 + (l.length : Int) < 1000 → Ldg.InvS (l.foldl stepM s) ∧ (l.foldl stepM s).2.1 ≤ s.2.1 + (l.length : Int)
 | [], s, h, hn => ⟨h, by simp⟩
 | a :: l, s, h, hn => by
  rw [List.length_cons] at hn
  obtain ⟨g1, g2⟩ := stepM_inv h (by omega) a
  obtain ⟨q1, q2⟩ := foldM_inv l (stepM s a) g1 (by omega)
  exact ⟨q1, by rw [List.foldl_cons, List.length_cons]; omega⟩
theorem runM_inv (acts : List MAct) (h : acts.length ≤ 200) : Ldg.InvS (runM acts) ∧ (runM acts).2.1 ≤ 1 + (acts.length : Int) := foldM_inv acts _ Ldg.inv_new (by show (1 : Int) + _ < 1000; omega)
theorem rdM (l : List MAct) (i : Nat) (h : i < l.length) : rd_T75 l (i : Int) = l[i] := by
 unfold rd_T75; rw [Int.toNat_natCast, List.getD_eq_getElem?_getD, List.getElem?_eq_getElem h]; rfl
/-- One round of the loop. -/
theorem round_ev (l : List MAct) (i : Nat) (hi : i < l.length) (hl : l.length ≤ 200) (ha : wfM l[i]) {s : Ldg.St} (h : Ldg.InvS s) (hn : s.2.1 < 1000) (R : Int × Int × List D)
  (ih : Ev (fun k => postroomlaw11_run.l0 k l ((i + 1 : Nat) : Int) (stepM s l[i]).1 (stepM s l[i]).2.1 ((stepM s l[i]).2.2.map Ldg.progD)) R) :
  Ev (fun k => postroomlaw11_run.l0 k l (i : Int) s.1 s.2.1 (s.2.2.map Ldg.progD)) R := by
 classical
 have ci : (i : Int) < (l.length : Int) := by omega
 have ci0 : 0 ≤ (i : Int) := by omega
 obtain ⟨a0, a1, a2⟩ := ha
 obtain ⟨kk, hkk, k0, k1⟩ := mpick_ev l[i].f0 11 a0.1 a0.2 (by decide)
 obtain ⟨cn, hcn, n0, n1⟩ := mpick_ev l[i].f1 4 a1.1 a1.2 (by decide)
 obtain ⟨c20, h20, d0, d1⟩ := mpick_ev l[i].f2 20 a2.1 a2.2 (by decide)
 obtain ⟨c2, h2, e0, e1⟩ := mpick_ev l[i].f2 2 a2.1 a2.2 (by decide)
 obtain ⟨c3, h3, t0, t1⟩ := mpick_ev l[i].f2 3 a2.1 a2.2 (by decide)
 have ew : wrap64 ((i : Int) + 1) = ((i + 1 : Nat) : Int) := by rw [Ldg.w64 (by omega) (by omega)]; omega
 have hok := mname_ok n0 n1
 have n4 : cn < (([(⟨#[97]⟩ : ByteArray), (⟨#[98]⟩ : ByteArray), (⟨#[99]⟩ : ByteArray), (⟨#[122, 111, 110, 101]⟩ : ByteArray)] : List ByteArray).length : Int) := n1
 have e4 : c2 < (([97, 114] : List Int).length : Int) := e1
 have es : stepM s l[i] = (Ldg.doA kk (mname cn) (if kk < 10 then IntKind.u64.wrap (1 + IntKind.u64.wrap c20) else IntKind.u64.wrap (s.1 + IntKind.u64.wrap c3)) (mkind c2) s.1 s.2.1 s.2.2).getD s := by
  unfold stepM seqM; rw [hkk, hcn, h20, h2, h3]; rfl
 have hI : Ldg.Inv s.1 s.2.1 s.2.2 := h
 obtain ⟨f, n, r⟩ := s
 dsimp only at *
 have hb := hI.big
 have hf1 := hI.f1
 have hfn := hI.fn
 rw [es] at ih
 refine Ev.step (fun k => by rw [postroomlaw11_run.l0, if_pos ci, bsome, if_pos ci0, rdM l i hi, hcn, bsome, if_pos n0, if_pos n4, hkk, bsome, ew]) ?_
 unfold Ldg.doA at ih
 by_cases b1 : kk < 4
 ·rw [if_pos b1] at ih
  refine Ev.congr (fun k => if_pos b1) (Ev.bind (Ev.fix (fun k => Ldg.add_law f n r hb)) (Ev.congr (fun k => if_pos rfl) ?_))
  rw [Ldg.u64_small (by omega) (by omega), ← Ldg.prog_radd r]
  exact ih
 ·rw [if_neg b1] at ih
  by_cases b2 : kk = 4
  ·rw [if_pos b2] at ih
   have hj := Ldg.join_law f n r hb (mname cn) (Ldg.name_ok _ hok).1
   by_cases b3 : Ldg.pN (mname cn) r < r.length
   ·rw [if_neg (fun g => g.2.1 b3)] at ih
    rw [if_pos b3] at hj
    exact Ev.congr (fun k => (if_neg b1).trans (if_pos b2)) (Ev.bind (Ev.fix (fun k => hj)) (Ev.congr (fun k => if_neg (by decide)) ih))
   ·rw [if_neg b3] at hj
    by_cases b4 : 4 ≤ r.length
    ·rw [if_neg (fun g => by omega)] at ih
     rw [if_pos b4] at hj
     exact Ev.congr (fun k => (if_neg b1).trans (if_pos b2)) (Ev.bind (Ev.fix (fun k => hj)) (Ev.congr (fun k => if_neg (by decide)) ih))
    ·rw [if_pos ⟨hok, b3, by omega⟩] at ih
     rw [if_neg b4] at hj
     exact Ev.congr (fun k => (if_neg b1).trans (if_pos b2)) (Ev.bind (Ev.fix (fun k => hj)) (Ev.congr (fun k => if_pos rfl) ih))
  ·rw [if_neg b2] at ih
   by_cases b3 : kk = 5
   ·rw [if_pos b3] at ih
    have hj := Ldg.leave_law f n r hb (mname cn)
    by_cases b4 : Ldg.pN (mname cn) r < r.length
    ·rw [if_pos b4] at ih hj
     exact Ev.congr (fun k => (if_neg b1).trans ((if_neg b2).trans (if_pos b3))) (Ev.bind (Ev.fix (fun k => hj)) (Ev.congr (fun k => if_pos rfl) ih))
    ·rw [if_neg b4] at ih hj
     exact Ev.congr (fun k => (if_neg b1).trans ((if_neg b2).trans (if_pos b3))) (Ev.bind (Ev.fix (fun k => hj)) (Ev.congr (fun k => if_neg (by decide)) ih))
   ·rw [if_neg b3] at ih
    by_cases b4 : kk < 10
    ·rw [if_pos b4, if_pos b4] at ih
     refine Ev.congr (fun k => by rw [if_neg b1, if_neg b2, if_neg b3, if_pos b4, h20, bsome, bsome, h2, bsome, if_pos e0, if_pos e4]) ?_
     have hd := Ldg.done_law hI (mname cn) (IntKind.u64.wrap (1 + IntKind.u64.wrap c20)) (mkind c2) (Ldg.u64_range _).1
     refine Ev.bind hd ?_
     by_cases b5 : Ldg.pN (mname cn) r < r.length
     ·rw [dif_pos b5] at ih ⊢
      by_cases b6 : mkind c2 = 97 ∨ mkind c2 = 114
      ·rw [if_pos b6]
       by_cases b7 : Ldg.isP r[Ldg.pN (mname cn) r] (IntKind.u64.wrap (1 + IntKind.u64.wrap c20))
       ·rw [if_pos ⟨b6, b7⟩] at ih
        rw [if_pos b7]
        exact Ev.congr (fun k => if_pos rfl) ih
       ·rw [if_neg (fun g => b7 g.2)] at ih
        rw [if_neg b7]
        exact Ev.congr (fun k => if_neg (by decide)) ih
      ·rw [if_neg (fun g => b6 g.1)] at ih
       rw [if_neg b6]
       exact Ev.congr (fun k => if_neg (by decide)) ih
     ·rw [dif_neg b5] at ih ⊢
      exact Ev.congr (fun k => if_neg (by decide)) ih
    ·rw [if_neg b4, if_neg b4] at ih
     refine Ev.congr (fun k => by rw [if_neg b1, if_neg b2, if_neg b3, if_neg b4, h3, bsome]) ?_
     by_cases b5 : f ≤ IntKind.u64.wrap (f + IntKind.u64.wrap c3) ∧ IntKind.u64.wrap (f + IntKind.u64.wrap c3) ≤ n
     ·rw [if_pos b5] at ih
      exact Ev.bind (Ev.fix (fun k => (Ldg.evict_law hI k _).trans (if_pos b5))) (Ev.congr (fun k => if_pos rfl) ih)
     ·rw [if_neg b5] at ih
      exact Ev.bind (Ev.fix (fun k => (Ldg.evict_law hI k _).trans (if_neg b5))) (Ev.congr (fun k => if_neg (by decide)) ih)
theorem mrun_l0 (l : List MAct) (hl : l.length ≤ 200) (hw : ∀ a ∈ l, wfM a) : ∀ (d i : Nat), i + d = l.length → Ev (fun k => postroomlaw11_run.l0 k l (i : Int) (runM (l.take i)).1 (runM (l.take i)).2.1 ((runM (l.take i)).2.2.map Ldg.progD)) ((runM l).1, (runM l).2.1, (runM l).2.2.map Ldg.progD)
 | 0, i, hi => by
  refine Ev.stop fun k => ?_
  rw [postroomlaw11_run.l0, if_neg (by omega), List.take_of_length_le (by omega)]
 | d + 1, i, hi => by
  have hlt : i < l.length := by omega
  have hlen : (l.take i).length ≤ 200 := by rw [List.length_take]; omega
  obtain ⟨g1, g2⟩ := runM_inv (l.take i) hlen
  have ih := mrun_l0 l hl hw d (i + 1) (by omega)
  have e : runM (l.take (i + 1)) = stepM (runM (l.take i)) l[i] := by
   rw [← List.take_append_getElem hlt]; unfold runM; rw [List.foldl_append]; rfl
  rw [e] at ih
  exact round_ev l i hlt hl (hw _ (List.getElem_mem hlt)) g1 (by omega) _ ih
theorem mrun_ev (l : List MAct) (hl : l.length ≤ 200) (hw : ∀ a ∈ l, wfM a) : Ev (fun k => postroomlaw11_run.f k l) ((runM l).1, (runM l).2.1, (runM l).2.2.map Ldg.progD) := by
 have h := mrun_l0 l hl hw l.length 0 (by omega)
 exact h
theorem wf_macts {l : List MAct} (hw : ∀ x ∈ l, (Lit.int .i64 x.f0).wf = true ∧ (Lit.int .i64 x.f1).wf = true ∧ (Lit.int .i64 x.f2).wf = true) : ∀ a ∈ l, wfM a := fun a ha => by
 obtain ⟨h0, h1, h2⟩ := hw a ha
 exact ⟨wf_i64 h0, wf_i64 h1, wf_i64 h2⟩
/-- A ledger that came of acts is right, and its numbers are small. -/
theorem inv_right {f n : Int} {r : List Ldg.RD} (h : Ldg.Inv f n r) : rightL f n (r.map Ldg.progD) = true := by
 have hb := h.few
 have h1 := right_f f n (r.map Ldg.progD) (by rw [List.length_map]; omega) (fun d hd => by
  obtain ⟨x, hx, rfl⟩ := List.mem_map.1 hd
  have g1 := (h.sm x hx).len
  have g2 := Ldg.abvL_len (x.f1 + (Ldg.lowN x.f2 : Int)) x.f2 x.f1
  show (Ldg.abvL (x.f1 + (Ldg.lowN x.f2 : Int)) x.f1 x.f2).length ≤ _
  omega)
 exact Ev.uniq h1 (Ldg.right_law h)
theorem inv_wfl {f n : Int} {r : List Ldg.RD} (h : Ldg.Inv f n r) : WFL f n (r.map Ldg.progD) := by
 have h1 := h.f1
 have h2 := h.fn
 have h3 := h.n1
 refine ⟨⟨by omega, by omega⟩, ⟨by omega, by omega⟩, fun d hd => ?_⟩
 obtain ⟨x, hx, rfl⟩ := List.mem_map.1 hd
 have g1 := h.since x hx
 have g2 := h.next x hx
 have g3 := Ldg.lowN_le x.f2
 have g4 := Ldg.abvL_len (x.f1 + (Ldg.lowN x.f2 : Int)) x.f2 x.f1
 have c1 := Ldg.cnt_len x.f2 97
 have c2 := Ldg.cnt_len x.f2 101
 have c3 := Ldg.cnt_len x.f2 114
 refine ⟨⟨⟨by show 0 ≤ x.f1; omega, by show x.f1 < _; omega⟩, ⟨by show 0 ≤ x.f1 + (Ldg.lowN x.f2 : Int); omega, by show x.f1 + (Ldg.lowN x.f2 : Int) < _; omega⟩, fun a ha => ?_, ⟨by show 0 ≤ ((Ldg.cntN 97 x.f2 : Nat) : Int); omega, by show ((Ldg.cntN 97 x.f2 : Nat) : Int) < _; omega⟩, ⟨by show 0 ≤ ((Ldg.cntN 101 x.f2 : Nat) : Int); omega, by show ((Ldg.cntN 101 x.f2 : Nat) : Int) < _; omega⟩, ⟨by show 0 ≤ ((Ldg.cntN 114 x.f2 : Nat) : Int); omega, by show ((Ldg.cntN 114 x.f2 : Nat) : Int) < _; omega⟩⟩, ?_⟩
 ·obtain ⟨i, b, p1, p2, p3, p4⟩ := (Ldg.mem_abvL _ x.f2 x.f1 a).1 ha
  have p5 := (List.getElem?_eq_some_iff.1 p1).1
  exact ⟨by omega, by omega⟩
 ·show (Ldg.abvL (x.f1 + (Ldg.lowN x.f2 : Int)) x.f1 x.f2).length ≤ _
  omega
end Go.Proofs.YtmbigoeldobaiaaDoor.Mrk
