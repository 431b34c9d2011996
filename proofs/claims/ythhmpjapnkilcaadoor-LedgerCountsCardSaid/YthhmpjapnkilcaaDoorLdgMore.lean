/- The plain law of chapter 10, fifth part: one entry done, entries evicted, as the laws ask for it. Conditions: those that each theorem names. -/
import Derived.Test.YthhmpjapnkilcaaDoorLdgObs
import Derived.Test.YthhmpjapnkilcaaDoorXLdgP1
namespace Go.Proofs.YthhmpjapnkilcaaDoor.Ldg
open Go.Proofs.YthhmpjapnkilcaaDoorW.PrintWords hiding encs
open Go.RowKit Go.Proofs.YthhmpjapnkilcaaDoorW.PrintLast Go.Proofs.YthhmpjapnkilcaaDoorW.PrintMore Go.Proofs.YthhmpjapnkilcaaDoor.Num Go.Proofs.YthhmpjapnkilcaaDoor.XLdg
set_option linter.unusedVariables false
set_option linter.unusedSimpArgs false
theorem Ev.fix {α : Type} {o : Option α} {r : α} (h : o = some r) : Ev (fun _ => o) r := ⟨0, fun _ _ => h⟩
theorem pendA_len {f n : Int} {r : List RD} (h : Inv f n r) (nm : ByteArray) : (pendA r nm).length ≤ 1000 := by
 unfold pendA
 split
 ·rename_i hp
  have hm := List.getElem_mem hp
  have h1 := (h.all _ hm).next
  have h2 := h.since _ hm
  have h3 := h.n1
  have h4 := cnt_len r[pN nm r].f2 112
  rw [pendL_len]; omega
 ·simp
theorem shown_ev : Ev (fun k => postroomlaw10_shown.f k) true := ⟨60, fun k hk => if_pos hk⟩
theorem wf_acts {l : List Act} (hw : ∀ x ∈ l, (Lit.int .i64 x.f0).wf = true ∧ (Lit.int .i64 x.f1).wf = true ∧ (Lit.int .i64 x.f2).wf = true ∧ (Lit.int .i64 x.f3).wf = true) : ∀ a ∈ l, wfA a := fun a ha => by
 obtain ⟨h0, h1, h2, h3⟩ := hw a ha
 exact ⟨wf_i64 h0, wf_i64 h1, wf_i64 h2, wf_i64 h3⟩
theorem pN_eq {f n : Int} {r : List RD} (h : Inv f n r) {nm : ByteArray} {i : Nat} (hi : i < r.length) (e : r[i].f0.toList = nm.toList) : pN nm r = i := by
 have h1 := pN_self h.apart i hi
 have h2 : ∀ (l : List RD) , pN nm l = pN r[i].f0 l := fun l => by
  induction l with
  | nil => rfl
  | cons y l ih => rw [pN, pN, ih, e]
 rw [h2]; exact h1
theorem pendA_at {f n : Int} {r : List RD} (h : Inv f n r) (i : Nat) (hi : i < r.length) : pendA r r[i].f0 = pendL r[i].f1 r[i].f2 := by
 have e := pN_self h.apart i hi
 unfold pendA
 rw [dif_pos (by rw [e]; exact hi)]
 simp only [e]
/-- One entry done. -/
def setR (r : List RD) (p i : Nat) (c : Int) (h : p < r.length) : List RD := r.set p (setD r[p] i c)
end Go.Proofs.YthhmpjapnkilcaaDoor.Ldg
