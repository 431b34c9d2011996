/- The plain law of chapter 10, fifth part: one entry done, entries evicted, as the laws ask for it. Conditions: those that each theorem names. -/
import Derived.Test.YthhmpjapnkilcaaDoorLdgObs
import Derived.Test.YthhmpjapnkilcaaDoorXLdgP1
namespace Go.Proofs.YthhmpjapnkilcaaDoor.Ldg
open Go.Proofs.YthhmpjapnkilcaaDoorW.PrintWords hiding encs
open Go.RowKit Go.Proofs.YthhmpjapnkilcaaDoorW.PrintLast Go.Proofs.YthhmpjapnkilcaaDoorW.PrintMore Go.Proofs.YthhmpjapnkilcaaDoor.Num Go.Proofs.YthhmpjapnkilcaaDoor.XLdg
set_option linter.unusedVariables false
set_option linter.unusedSimpArgs false
theorem Ev.fix {α : Type} {o : Option α} {r : α} (h : o = some r) : Ev (fun _ => o) r := ⟨0, fun _ _ => h⟩
theorem shown_ev : Ev (fun k => postroomlaw10_shown.f k) true := ⟨60, fun k hk => if_pos hk⟩
theorem wf_acts {l : List Act} (hw : ∀ x ∈ l, (Lit.int .i64 x.f0).wf = true ∧ (Lit.int .i64 x.f1).wf = true ∧ (Lit.int .i64 x.f2).wf = true ∧ (Lit.int .i64 x.f3).wf = true) : ∀ a ∈ l, wfA a := fun a ha => by
 obtain ⟨h0, h1, h2, h3⟩ := hw a ha
 exact ⟨wf_i64 h0, wf_i64 h1, wf_i64 h2, wf_i64 h3⟩
/-- One entry done. -/
def setR (r : List RD) (p i : Nat) (c : Int) (h : p < r.length) : List RD := r.set p (setD r[p] i c)
end Go.Proofs.YthhmpjapnkilcaaDoor.Ldg
