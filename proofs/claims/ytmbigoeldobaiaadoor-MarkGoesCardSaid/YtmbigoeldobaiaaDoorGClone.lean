/- slices.Clone at destinations: the row is new, what its elements lead to is shared. Conditions: those that each theorem names. -/
import Derived.Test.YtmbigoeldobaiaaDoorXMrkP1
import Derived.Test.YtmbigoeldobaiaaDoorNumLib
import Derived.WalkSpells
namespace Go.Proofs.YtmbigoeldobaiaaDoor.XMrk
open Go Go.RowKit Go.Proofs.YtmbigoeldobaiaaDoorW.PrintWords Go.Proofs.YtmbigoeldobaiaaDoorW.PrintLast Go.Proofs.YtmbigoeldobaiaaDoorW.PrintMore Go.Proofs.YtmbigoeldobaiaaDoor.Num
set_option linter.unusedVariables false
set_option linter.unusedSimpArgs false
def ledger_Dest_39.f (l0 : List S55) : Option (List S55) := if l0.length ≤ 1000000 then some l0 else none
set_option maxHeartbeats 4000000 in
set_option maxRecDepth 100000 in
theorem ledger_Dest_39.calls (P0_ : Nat → Prop) (A0 : Option Addr) (c0 : Nat) (l0 : List S55) (r : List S55) (w : World) (hs0 : Kd.V k55 55 w w.heap.size (fun k_ => P0_ k_) (.slice A0 l0.length c0) l0) (h : ledger_Dest_39.f l0 = some r) :
  Calls Tryd.prog 39 #[.slice A0 l0.length c0] w fun e w' => ∃ v0_ : Value, e = .returned v0_ ∧ Kd.N k55 55 w' w.heap.size (fun k_ => (P0_ k_ ∨ w.heap.size ≤ k_)) v0_ r ∧ Below w.heap.size w w' := by
 unfold ledger_Dest_39.f at h
 by_cases hl : l0.length ≤ 1000000
 ·rw [if_pos hl] at h
  obtain rfl := Option.some.inj h
  clear h
  cases A0 with
  | none =>
   have h0 : l0 = [] := by
    have h1 := (Kd.V_reads' hs0).2.2
    rcases Nat.eq_zero_or_pos l0.length with h2 | h2
    ·exact List.eq_nil_of_length_eq_zero h2
    ·obtain ⟨ad, e, _⟩ := h1.2.2 h2; cases e
   subst h0
   clear hs0 hl
   have q22 : ∀ (w : World) (a : Option Addr) (n c n' c' : Nat), (binOp .eql 23 (.slice a n c) (.slice none n' c')).run Tryd.prog w = .ok (.bool a.isNone) w := fun w a n c n' c' => Lib.run_eql_slice_nil w _ _ a n c n' c' Tryd.underlying23
   go_enter Tryd.func39, Tryd.ntmps39
   go_wp2
   go_ret
   exact ⟨_, rfl, Kd.N_nil _ _ _ _ _, Below.refl _ _⟩
  | some ad =>
   have HF := Aside0.mk (Kd.F_bound (Kd.V_F hs0))
   have HL := Aside0.mk hl
   clear hs0 hl
   have q22 : ∀ (w : World) (a : Option Addr) (n c n' c' : Nat), (binOp .eql 23 (.slice a n c) (.slice none n' c')).run Tryd.prog w = .ok (.bool a.isNone) w := fun w a n c n' c' => Lib.run_eql_slice_nil w _ _ a n c n' c' Tryd.underlying23
   go_enter Tryd.func39, Tryd.ntmps39
   go_wp2_with (first
    | ((with_reducible refine gate_dst (N := 5) rfl ?_); refine Kd.N_lit k55 (w0 := w) w.heap.size 55 ?hg (N' := 5) ?hd (xs := ([] : List S55)) (inner := []) (ok := fun k_ => P0_ k_ ∨ w.heap.size ≤ k_) (okp := fun _ => False) ?hr (Reps.none _ _) (fun _ hk => hk.elim) (.inr (Nat.le_refl _)) (Below.refl _ _) (Nat.le_refl _) (by simp) ?_; (case hd => rfl); (case hg => rfl); (case hr => first | (go_simp; done) | (go_simp; rfl)); intro v1 w1 ho1 hb1 hg1 hat1; have HO1 := Aside0.mk ho1; have HB1 := Aside0.mk hb1; have HAT := Aside0.mk hat1; clear ho1 hb1 hg1 hat1)
    | (at_builtin; refine Kd.N_append_rows k55 (w0 := w) w.heap.size rfl (.tmp 5) (.tmp 6) 23 55 (.agg #[(.string ⟨#[]⟩), (.int .u64 0), (.int .u64 0), (.slice none 0 0), (.int .u64 0), (.int .u64 0), (.int .u64 0)]) 80 rfl Tryd.underlying23 info55 rfl (by decide) (by omega) v1 [] l0 _ _ _ (fun k_ => P0_ k_ ∨ w.heap.size ≤ k_) (fun k_ => P0_ k_ ∧ k_ < w.heap.size) rfl rfl HO1.out (Kd.F_below HF.out HB1.out) ?hq (fun k hk => .inr (Nat.le_trans HB1.out.size hk)) HB1.out HB1.out.size ?hm ?_; (case hq => intro k hk; refine ⟨.inl hk.1, ?_⟩; obtain ⟨b, e1, e2⟩ := HAT.out; rw [e1]; intro e3; injection e3 with e3; have := hk.2; omega); (case hm => have := HL.out; simp only [List.length_nil]; omega); intro v2 w2 ho2 hb2 hg2 hat2; have HO2 := Aside0.mk ho2; have HB2 := Aside0.mk hb2; clear ho2 hb2 hg2 hat2))
   go_ret
   exact ⟨_, rfl, HO2.out, HB2.out⟩
 ·rw [if_neg hl] at h; cases h
end Go.Proofs.YtmbigoeldobaiaaDoor.XMrk
