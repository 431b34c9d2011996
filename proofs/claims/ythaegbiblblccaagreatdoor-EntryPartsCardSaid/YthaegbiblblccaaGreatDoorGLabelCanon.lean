/- label.ordered and label.Canon: labels that are right, sorted by name. Conditions: those that each theorem names. -/
import Derived.Test.YthaegbiblblccaaGreatDoorXEntP1
import Derived.Test.YthaegbiblblccaaGreatDoorXEntP2
import Derived.Test.YthaegbiblblccaaGreatDoorGLabelSort
namespace Go.Proofs.YthaegbiblblccaaGreatDoor.XEnt
open Go.RowKit Go.Shelf Go.Lib Go.Proofs.YthaegbiblblccaaGreatDoorW.PrintWords Go.Proofs.YthaegbiblblccaaGreatDoorW.PrintLast Go.Proofs.YthaegbiblblccaaGreatDoorW.PrintMore Go.Proofs.YthaegbiblblccaaGreatDoor.Num
set_option linter.unusedVariables false
set_option linter.unusedSimpArgs false

theorem sorted.calls (ls : List Q) (A : Option Addr) (c Bs B : Nat) (w : World) (hr : Kd.C k52 w A ls.length ls) (hc : ls.length ≤ c) (hBs : w.cell? ⟨Bs, 0, none⟩ = some (.slice A ls.length c)) (hlts : Bs < w.heap.size) (hB : w.cell? ⟨B, 0, none⟩ = some (.func (.func 64) #[] #[])) (hlt : B < w.heap.size) (h12 : ls.length ≤ 12) :
    Calls Tryz.prog 77 #[.func (.func 93) #[] #[.pointer (some ⟨Bs, 0, none⟩)], .func (.func 79) #[] #[.pointer (some ⟨B, 0, none⟩)]] w fun e w' => ∃ v, e = .returned v ∧ Kd.R k52 52 w' w.heap.size (fun _ => True) v (sortL ls) ∧ Below w.heap.size w w' := by
  have H1 := collect.calls ls A c Bs w hr hc hBs hlts (by omega)
  have H2 := fun v w1 hR hb => sortFunc.calls ls v B w.heap.size w1 hR hb hlt
  clear hr hc hBs hlts
  go_enter Tryz.func77, Tryz.ntmps77
  go_wp2_with (first
    | (go_at_call 91; refine H1.mono ?_; rintro e w1 ⟨v, rfl, hR, hb⟩)
    | (go_at_call 92; refine (H2 _ _ hR ((hb.cell (p := ⟨B, 0, none⟩) hlt).trans hB) hb.size h12).mono ?_; rintro e w2 ⟨rfl, hR2, hb2⟩))
  go_ret
  exact ⟨_, rfl, hR2, hb.trans hb2⟩
set_option maxRecDepth 100000 in
theorem ordered.calls (ls : List Q) (A : Option Addr) (c : Nat) (w : World) (hr : Kd.C k52 w A ls.length ls) (hc : ls.length ≤ c) (h12 : ls.length ≤ 12) :
    Calls Tryz.prog 63 #[.slice A ls.length c, .func (.func 64) #[] #[]] w fun e w' => ∃ v, e = .returned v ∧ Kd.R k52 52 w' w.heap.size (fun _ => True) v (sortL ls) ∧ Below w.heap.size w w' := by
  obtain ⟨W1, hW1⟩ : ∃ W1, w.alloc (.cells #[.func (.func 64) #[] #[]] 100) = W1 := ⟨_, rfl⟩
  have hz1 : W1.heap.size = w.heap.size + 1 := by rw [← hW1, World.size_alloc]
  have e1 : W1.cell? ⟨w.heap.size, 0, none⟩ = some (.func (.func 64) #[] #[]) := by rw [← hW1]; exact World.cell?_alloc_new _ _ _ _
  have b1 : Below w.heap.size w W1 := by rw [← hW1]; exact below_alloc (Below.refl _ _) _
  obtain ⟨W2, hW2⟩ : ∃ W2, W1.alloc (.cells #[.slice A ls.length c] 22) = W2 := ⟨_, rfl⟩
  have hz2 : W2.heap.size = w.heap.size + 2 := by rw [← hW2, World.size_alloc, hz1]
  have e2 : W2.cell? ⟨W1.heap.size, 0, none⟩ = some (.slice A ls.length c) := by rw [← hW2]; exact World.cell?_alloc_new _ _ _ _
  have e3 : W2.cell? ⟨w.heap.size, 0, none⟩ = some (.func (.func 64) #[] #[]) := by rw [← hW2]; exact (World.cell?_alloc_past _ _ _ (by omega)).trans e1
  have b2 : Below w.heap.size w W2 := by rw [← hW2]; exact below_alloc b1 _
  have hV : Calls Tryz.prog 78 #[.slice A ls.length c] W1 fun e w' => e = .returned (.func (.func 93) #[] #[.pointer (some ⟨W1.heap.size, 0, none⟩)]) ∧ w' = W2 := by rw [← hW2]; exact values.calls _ _ _ _
  have H1 := sorted.calls ls A c W1.heap.size w.heap.size W2 (Kd.C_below hr b2) hc e2 (by omega) e3 (by omega) h12
  have hE : ∀ o, o = Obj.cells #[.func (.func 64) #[] #[]] 100 → w.alloc o = W1 := fun o h => by rw [h, hW1]
  clear hr hc e1 e2 e3 hW2 b1
  generalize W1.heap.size = s1 at hV H1
  go_enter Tryz.func63, Tryz.ntmps63
  go_wp2_with (first
    | ((try rw [hW1]); go_at_call 78; refine hV.mono ?_; rintro e w1 ⟨rfl, rfl⟩)
    | (go_at_call 77; refine H1.mono ?_; rintro e w1 ⟨v, rfl, hR, hb⟩))

  go_ret
  exact ⟨_, rfl, Kd.R_lower hR b2.size, b2.trans (hb.mono b2.size)⟩

def label_Canon.f (k : Nat) (l0 : List (S52)) : Option (List (S52) × Int) := (label_Check.f k l0).bind fun t => if t = 0 then some (sortL l0, 0) else some ([], t)
theorem label_Canon.mono : ∀ a0 k, LeO (label_Canon.f k a0) (label_Canon.f (k + 1) a0) := by
  intro a0 k
  unfold label_Canon.f
  exact LeO.bind (label_Check.mono _ _) (fun _ => LeO.refl _)
theorem check_short {k : Nat} {l : List (S52)} (h : label_Check.f k l = some 0) : l.length ≤ 8 := by
  unfold label_Check.f at h
  split at h
  · simp at h
  · omega
theorem label_Canon.calls (k : Nat) (A0 : Option Addr) (c0 : Nat) (l0 : List (S52)) (r1 : List (S52)) (r2 : Int) (w : World) (hr0 : Kd.C k52 w A0 l0.length l0) (hc0 : l0.length ≤ c0) (h : label_Canon.f k l0 = some (r1, r2)) :
    Calls Tryz.prog 39 #[.slice A0 l0.length c0] w fun e w' => ∃ v0_ : Value, e = .returned (.tuple #[v0_, .int .i64 r2]) ∧ Kd.R k52 52 w' w.heap.size (fun _ => True) v0_ r1 ∧ Below w.heap.size w w' := by
  obtain ⟨t, ht, h⟩ := Option.bind_eq_some_iff.mp h
  have H1 := label_Check.calls k A0 c0 l0 t w hr0 hc0 ht
  by_cases c : t = 0
  · rw [if_pos c] at h
    obtain ⟨rfl, rfl⟩ := Prod.mk.injEq _ _ _ _ ▸ Option.some.inj h
    subst c
    have H2 := fun w1 (hb : Below w.heap.size w w1) => ordered.calls l0 A0 c0 w1 (Kd.C_below hr0 hb) hc0 (by have := check_short ht; omega)
    clear hr0 hc0 ht h
    go_enter Tryz.func39, Tryz.ntmps39
    go_wp2_with (first
      | (go_at_call 32; refine H1.mono ?_; rintro e w1 ⟨rfl, hb⟩)
      | (go_at_call 63; refine (H2 _ hb).mono ?_; rintro e w2 ⟨v, rfl, hR, hb2⟩))
    go_ret2
    exact ⟨_, rfl, Kd.R_lower hR hb.size, hb.trans (hb2.mono hb.size)⟩
  · rw [if_neg c] at h
    obtain ⟨rfl, rfl⟩ := Prod.mk.injEq _ _ _ _ ▸ Option.some.inj h
    have cb : (t == 0) = false := beq_eq_false_iff_ne.mpr c
    clear hr0 hc0 ht h
    go_enter Tryz.func39, Tryz.ntmps39
    go_wp2_with (first
      | (go_at_call 32; refine H1.mono ?_; rintro e w1 ⟨rfl, hb⟩))
    go_ret2
    exact ⟨_, rfl, Kd.R_nil _ _ _ _ _, hb⟩
end Go.Proofs.YthaegbiblblccaaGreatDoor.XEnt
