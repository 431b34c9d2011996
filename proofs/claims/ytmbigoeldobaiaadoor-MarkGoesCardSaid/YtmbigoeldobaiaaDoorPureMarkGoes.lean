/- MarkGoes: a ledger that is taken goes on as the one that was put. Conditions: the law's own. -/
import Derived.Test.YtmbigoeldobaiaaDoorMrkSame
import Derived.Test.YtmbigoeldobaiaaDoorXMrkP1
import Derived.Test.YtmbigoeldobaiaaDoorXMrkP2
import Derived.Test.YtmbigoeldobaiaaDoorXMrkx25
namespace Go.Proofs.YtmbigoeldobaiaaDoor.Mrk
open Go.Proofs.YtmbigoeldobaiaaDoorW.PrintWords hiding encs
open Go.RowKit Go.Proofs.YtmbigoeldobaiaaDoorW.PrintLast Go.Proofs.YtmbigoeldobaiaaDoorW.PrintMore Go.Proofs.YtmbigoeldobaiaaDoor.Num Go.Proofs.YtmbigoeldobaiaaDoor.XMrk Go.Proofs.YtmbigoeldobaiaaDoor.Nam
set_option linter.unusedVariables false
set_option linter.unusedSimpArgs false
theorem cvs_len {l : List D} {c : Nat} (h : ∀ d ∈ l, d.f3.length ≤ c) : ∀ d ∈ l.map cv, d.f3.length ≤ c := fun d hd => by
  obtain ⟨x, hx, rfl⟩ := List.mem_map.1 hd
  exact h x hx
theorem add_inv {f n : Int} {r : List Ldg.RD} (h : Ldg.Inv f n r) (hn : n < 1000) : Ldg.Inv f (n + 1) (Ldg.radd r) :=
  (Ldg.doA_inv h hn 0 ByteArray.empty 0 0 (by unfold Ldg.doA; rw [if_pos (by decide)])).1
def Few (ds : List D) : Prop := ds.length ≤ 4 ∧ ∀ d ∈ ds, d.f3.length ≤ 1000
theorem few_inv {f n : Int} {r : List Ldg.RD} (h : Ldg.Inv f n r) : Few (r.map Ldg.progD) := ⟨by rw [List.length_map]; exact h.few, fun d hd => ((inv_few h).1 d hd).1⟩
theorem few_nil : Few [] := ⟨Nat.zero_le _, fun d hd => by cases hd⟩
theorem done_any {f n : Int} {r : List Ldg.RD} (h : Ldg.Inv f n r) (hn : n < 1000) (nm : ByteArray) (seq c : Int) (hq : 0 ≤ seq) : ∃ F N ds e, Ev (fun k => ledger_Done.f k f n (r.map Ldg.progD) nm seq c) (F, N, ds, e) ∧ Few ds := by
  classical
  have hd := Ldg.done_law h nm seq c hq
  by_cases g : Ldg.pN nm r < r.length
  · rw [dif_pos g] at hd
    by_cases c1 : c = 97 ∨ c = 114
    · rw [if_pos c1] at hd
      by_cases c2 : Ldg.isP r[Ldg.pN nm r] seq
      · rw [if_pos c2] at hd
        have hi := (Ldg.doA_inv h hn 6 nm seq c (f' := f) (n' := n) (r' := r.set (Ldg.pN nm r) (Ldg.setD r[Ldg.pN nm r] (seq - r[Ldg.pN nm r].f1).toNat c)) (by
          unfold Ldg.doA
          rw [if_neg (by decide), if_neg (by decide), if_neg (by decide), if_pos (by decide), dif_pos g, if_pos ⟨c1, c2⟩])).1
        exact ⟨_, _, _, _, hd, few_inv hi⟩
      · rw [if_neg c2] at hd; exact ⟨_, _, _, _, hd, few_nil⟩
    · rw [if_neg c1] at hd; exact ⟨_, _, _, _, hd, few_nil⟩
  · rw [dif_neg g] at hd; exact ⟨_, _, _, _, hd, few_nil⟩
theorem evict_any {f n : Int} {r : List Ldg.RD} (h : Ldg.Inv f n r) (hn : n < 1000) (t : Int) : ∃ F N ds e, (∀ k, ledger_Evict.f k f n (r.map Ldg.progD) t = some (F, N, ds, e)) ∧ Few ds := by
  classical
  by_cases g : f ≤ t ∧ t ≤ n
  · have hi := (Ldg.doA_inv h hn 10 ByteArray.empty t 0 (f' := t) (n' := n) (r' := r.map (Ldg.evR t)) (by
      unfold Ldg.doA
      rw [if_neg (by decide), if_neg (by decide), if_neg (by decide), if_neg (by decide), if_pos g])).1
    exact ⟨_, _, _, _, fun k => (Ldg.evict_law h k t).trans (if_pos g), few_inv hi⟩
  · exact ⟨_, _, _, _, fun k => (Ldg.evict_law h k t).trans (if_neg g), few_nil⟩
theorem goes (l : List MAct) (a1 a2 : Int) (hw : ∀ a ∈ l, wfM a) (h1 : -9223372036854775808 ≤ a1 ∧ a1 < 9223372036854775808) (h2 : -9223372036854775808 ≤ a2 ∧ a2 < 9223372036854775808) : Ev (fun k => postroomlaw11_MarkGoes.f k l a1 a2) true := by
  refine Ev.bind shown_f (Ev.congr (fun k => if_pos rfl) ?_)
  by_cases c : (l.length : Int) > 100
  · exact Ev.congr (fun k => if_pos c) (Ev.now _)
  · refine Ev.congr (fun k => if_neg c) ?_
    obtain ⟨hI, hN⟩ := runM_inv l (by omega)
    have hr := mrun_ev l (by omega) hw
    generalize runM l = S at hI hN hr
    obtain ⟨f, n, r⟩ := S
    have hI' : Ldg.Inv f n r := hI
    have hN' : n ≤ 1 + (l.length : Int) := hN
    have hn : n < 900 := by omega
    have hf := hI'.few
    have hfn := hI'.fn
    have hf1 := hI'.f1
    have hW := inv_wfl hI'
    have hR := inv_right hI'
    have hp := mput_f hW (by rw [List.length_map]; omega)
    rw [if_pos hR] at hp
    have ht := mtake_put hW hR
    obtain ⟨cn, hc, x0, x1⟩ := mpick_ev a1 4 h1.1 h1.2 (by decide)
    obtain ⟨c30, h30, y0, y1⟩ := mpick_ev a2 30 h2.1 h2.2 (by decide)
    obtain ⟨c5, h5, z0, z1⟩ := mpick_ev a2 5 h2.1 h2.2 (by decide)
    have x4 : cn < (([(⟨#[97]⟩ : ByteArray), (⟨#[98]⟩ : ByteArray), (⟨#[99]⟩ : ByteArray), (⟨#[122, 111, 110, 101]⟩ : ByteArray)] : List ByteArray).length : Int) := x1
    have ha : ledger_Add.f f n (r.map Ldg.progD) = some (f, n + 1, (Ldg.radd r).map Ldg.progD) := by
      rw [Ldg.add_law f n r hI'.big, Ldg.u64_small (by omega) (by omega), Ldg.prog_radd]
    obtain ⟨F, N, ds, e, hD, fD⟩ := done_any (add_inv hI' (by omega)) (by omega) (mname cn) (IntKind.u64.wrap c30) 97 (Ldg.u64_range _).1
    obtain ⟨G, M, es, e', hE, fE⟩ := evict_any hI' (by omega) (IntKind.u64.wrap (f + IntKind.u64.wrap c5))
    have a1' := as_f F N ds (by have := fD.1; omega)
    have a2' := as_f G M es (by have := fE.1; omega)
    have s1 := same_refl F N (ds.map cv) (by rw [List.length_map]; have := fD.1; omega) (fun d hd => by have := cvs_len fD.2 d hd; omega)
    have s2 := same_refl G M (es.map cv) (by rw [List.length_map]; have := fE.1; omega) (fun d hd => by have := cvs_len fE.2 d hd; omega)
    have hc' : ∀ _ : Nat, postroomlaw11_pick.f a1 4 = some cn := fun _ => hc
    have h30' : ∀ _ : Nat, postroomlaw11_pick.f a2 30 = some c30 := fun _ => h30
    have h5' : ∀ _ : Nat, postroomlaw11_pick.f a2 5 = some c5 := fun _ => h5
    refine Ev.bind hr (Ev.bind hp (Ev.bind ht (Ev.congr (fun k => (if_pos rfl).trans (if_pos rfl)) ?_)))
    refine Ev.bind (Ev.now _) (Ev.bind (Ev.fix hc') (Ev.congr (fun k => (if_pos x0).trans (if_pos x4)) ?_))
    refine Ev.bind (Ev.fix (fun _ => ha)) (Ev.bind (Ev.fix h30') (Ev.bind hD ?_))
    refine Ev.bind (Ev.fix (fun _ => ha)) (Ev.bind (Ev.fix h30') (Ev.bind hD ?_))
    refine Ev.bind (Ev.fix h5') (Ev.bind (Ev.fix hE) (Ev.bind (Ev.fix h5') (Ev.bind (Ev.fix hE) ?_)))
    refine Ev.congr (fun k => (if_pos rfl).trans (if_pos rfl)) ?_
    refine Ev.bind a1' (Ev.bind a1' (Ev.bind s1 (Ev.congr (fun k => if_pos rfl) ?_)))
    exact Ev.bind a2' (Ev.bind a2' (Ev.bind s2 (Ev.now _)))
end Go.Proofs.YtmbigoeldobaiaaDoor.Mrk
namespace Go.Proofs.YtmbigoeldobaiaaDoor
theorem Pure.MarkGoes : XMrk.postroomlaw11_MarkGoes.Pure := fun l a1 a2 _ _ hw h1 h2 => Go.Proofs.YtmbigoeldobaiaaDoorW.PrintWords.Ev.rounds (Mrk.goes l a1 a2 (Mrk.wf_macts hw) (Num.wf_i64 h1) (Num.wf_i64 h2))
end Go.Proofs.YtmbigoeldobaiaaDoor
