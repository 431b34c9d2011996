/- MarkShort: a ledger's bytes are few: of each destination its name, and six numbers, and one number of each that is done above the first one that waits. Conditions: the law's own. -/
import Derived.Test.YtmbigoeldobaiaaDoorMrkSame
import Derived.Test.YtmbigoeldobaiaaDoorXMrkx25
namespace Go.Proofs.YtmbigoeldobaiaaDoor.Mrk
open Go.Proofs.YtmbigoeldobaiaaDoorW.PrintWords hiding encs
open Go.RowKit Go.Proofs.YtmbigoeldobaiaaDoorW.PrintLast Go.Proofs.YtmbigoeldobaiaaDoorW.PrintMore Go.Proofs.YtmbigoeldobaiaaDoor.Num Go.Proofs.YtmbigoeldobaiaaDoor.XMrk Go.Proofs.YtmbigoeldobaiaaDoor.Nam
set_option linter.unusedVariables false
set_option linter.unusedSimpArgs false
theorem sumN_take (g : D → Nat) : ∀ (l : List D) (i : Nat) (h : i < l.length), sumN g (l.take (i + 1)) = sumN g (l.take i) + g l[i]
 | [], i, h => by simp at h
 | a :: l, 0, h => by simp [sumN]
 | a :: l, i + 1, h => by
  have h' : i < l.length := by simpa using h
  have ih := sumN_take g l i h'
  show g a + sumN g (l.take (i + 1)) = (g a + sumN g (l.take i)) + g (l[i]'h')
  omega
theorem sumN_mono {g : D → Nat} {c : Nat} {l : List D} (h : ∀ d ∈ l, g d ≤ c) (i : Nat) : sumN g (l.take i) ≤ c * l.length := by
 have h1 := sum_le (g := g) (c := c) (l := l.take i) (fun d hd => h d (List.mem_of_mem_take hd))
 have h2 : c * (l.take i).length ≤ c * l.length := Nat.mul_le_mul_left c (by rw [List.length_take]; omega)
 omega
theorem short_l0 (s : ByteArray) (f n : Int) (ds : List D) (hl : ds.length ≤ 4) (hd : ∀ d ∈ ds, d.f3.length ≤ 1000 ∧ d.f0.size ≤ 20) (h1 : 3 + sumN leastD ds ≤ s.size) (h2 : s.size ≤ 21 + sumN mostD ds) : ∀ (m i : Nat), i + m = ds.length → Ev (fun k => postroomlaw11_MarkShort.l0 k s 0 ((21 + sumN mostD (ds.take i) : Nat) : Int) ((3 + sumN leastD (ds.take i) : Nat) : Int) (i : Int) f n ds) true
 | 0, i, hi => by
  rw [List.take_of_length_le (by omega)]
  refine Ev.stop fun k => ?_
  rw [postroomlaw11_MarkShort.l0, if_neg (by omega), if_pos rfl, if_pos (by omega), decide_eq_true (by omega)]
 | m + 1, i, hi => by
  have hlt : i < ds.length := by omega
  have ih := short_l0 s f n ds hl hd h1 h2 m (i + 1) (by omega)
  obtain ⟨g1, g2⟩ := hd ds[i] (List.getElem_mem hlt)
  have b1 := sumN_mono (g := mostD) (c := 10081) (l := ds) (fun d hd' => by have := hd d hd'; unfold mostD; omega) i
  have b2 := sumN_mono (g := leastD) (c := 1027) (l := ds) (fun d hd' => by have := hd d hd'; unfold leastD; omega) i
  have e1 := sumN_take mostD ds i hlt
  have e2 := sumN_take leastD ds i hlt
  have c1 : 10081 * ds.length ≤ 40324 := by omega
  have c2 : 1027 * ds.length ≤ 4108 := by omega
  have q1 : mostD ds[i] = 61 + ds[i].f0.size + 10 * ds[i].f3.length := rfl
  have q2 : leastD ds[i] = 7 + ds[i].f0.size + ds[i].f3.length := rfl
  refine Ev.step (fun k => ?_) ih
  rw [postroomlaw11_MarkShort.l0, if_pos (by omega), if_pos (by omega), rdD ds i hlt, w_succ (i := i) (by omega)]
  generalize ds[i].f0.size = p at *
  generalize ds[i].f3.length = q at *
  generalize sumN mostD (ds.take i) = x at *
  generalize sumN leastD (ds.take i) = y at *
  rw [e1, e2, q1, q2]
  rw [w64_id (x := ((21 + x : Nat) : Int) + 1) (by omega) (by omega), w64_id (x := ((21 + x : Nat) : Int) + 1 + (p : Int)) (by omega) (by omega), w64_id (x := ((21 + x : Nat) : Int) + 1 + (p : Int) + 60) (by omega) (by omega), w64_id (x := 10 * (q : Int)) (by omega) (by omega), w64_id (x := ((21 + x : Nat) : Int) + 1 + (p : Int) + 60 + 10 * (q : Int)) (by omega) (by omega), w64_id (x := ((3 + y : Nat) : Int) + 1) (by omega) (by omega), w64_id (x := ((3 + y : Nat) : Int) + 1 + (p : Int)) (by omega) (by omega), w64_id (x := ((3 + y : Nat) : Int) + 1 + (p : Int) + 6) (by omega) (by omega), w64_id (x := ((3 + y : Nat) : Int) + 1 + (p : Int) + 6 + (q : Int)) (by omega) (by omega)]
  congr 1 <;> omega
theorem short (l : List MAct) (hw : ∀ a ∈ l, wfM a) : Ev (fun k => postroomlaw11_MarkShort.f k l) true := by
 have hj : ∀ k, postroomlaw11_MarkShort.j0 (k + 1) l true true = some true := fun k => by rw [postroomlaw11_MarkShort.j0, if_pos rfl]
 refine Ev.bind shown_f (Ev.congr (fun k => if_pos rfl) ?_)
 by_cases c : (l.length : Int) > 100
 ·rw [decide_eq_true c]; exact Ev.stop hj
 ·rw [decide_eq_false c]
  obtain ⟨hI, hN⟩ := runM_inv l (by omega)
  have hr := mrun_ev l (by omega) hw
  generalize runM l = S at hI hN hr
  obtain ⟨f, n, r⟩ := S
  have hI' : Ldg.Inv f n r := hI
  have hW := inv_wfl hI'
  have hR := inv_right hI'
  obtain ⟨hd, hE⟩ := inv_few hI'
  obtain ⟨r1, r2⟩ := encL_range hW hR
  generalize r.map Ldg.progD = ds at hr hW hR hd hE r1 r2
  have hds := (rightL_name hR).1
  have hp := mput_f hW (by omega)
  rw [if_pos hR] at hp
  refine Ev.step (fun k => by rw [postroomlaw11_MarkShort.j0, if_neg (by decide)]) ?_
  refine Ev.bind hr (Ev.bind hp ?_)
  have h := short_l0 (bs (encL f n ds)) f n ds hds hd (by rw [bs_size]; exact r1) (by rw [bs_size]; exact r2) ds.length 0 (by omega)
  exact h
end Go.Proofs.YtmbigoeldobaiaaDoor.Mrk
namespace Go.Proofs.YtmbigoeldobaiaaDoor
theorem Pure.MarkShort : XMrk.postroomlaw11_MarkShort.Pure := fun l _ _ hw => Go.Proofs.YtmbigoeldobaiaaDoorW.PrintWords.Ev.rounds (Mrk.short l (Mrk.wf_macts hw))
end Go.Proofs.YtmbigoeldobaiaaDoor
