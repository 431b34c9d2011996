/- DiskFails: a disk that fails once, and one that does not, told the same, but what failed: they stay alike. Conditions: none but those that each theorem names. -/
import Derived.Test.YtolbicncdookmaaDskMany
import Derived.Test.YtolbicncdookmaaDskPlain
import Derived.Test.YtolbicncdookmaaXDskx1

namespace Go.Proofs.Ytolbicncdookmaa.XDsk
open Go Go.RowKit Go.Maps Go.Sort Go.Shelf Go.Proofs.YtolbicncdookmaaW.PrintWords Go.Proofs.YtolbicncdookmaaW.PrintLast Go.Proofs.YtolbicncdookmaaW.PrintMore Go.Proofs.Ytolbicncdookmaa.Num
set_option linter.unusedVariables false
set_option linter.unusedSimpArgs false
/-! ### acts -/
def actE (kd : Int) (S : PD) (nm tx : ByteArray) (n : Int) : Int :=
  if kd < 2 then createE S nm else if kd < 6 then appendE S nm tx else if kd = 6 then cutE S nm n else if kd < 9 then syncE S nm else if kd < 11 then removeE S nm else beginE S
def actS (kd : Int) (S : PD) (nm tx : ByteArray) (n : Int) : PD :=
  if kd < 2 then createS S nm else if kd < 6 then appendS S nm tx else if kd = 6 then cutS S nm n else if kd < 9 then syncS S nm else if kd < 11 then removeS S nm else syncDirS S
theorem Good.act {c : Nat} {S : PD} (g : Good c S) (kd : Int) (nm tx : ByteArray) (n : Int) (hn : nm.size ≤ 1000000) : Good (c + 3 + tx.size) (actS kd S nm tx n) := by
  unfold actS
  split
  · exact (g.create nm hn).mono (by omega)
  · split
    · exact g.append nm tx
    · split
      · exact (g.cut nm n).mono (by omega)
      · split
        · exact (g.sync nm).mono (by omega)
        · split
          · exact (g.remove nm hn).mono (by omega)
          · exact g.syncDir.mono (by omega)
/-! ### the same disk, at other counts -/
def tw (S : PD) (o q : Int) : PD := { S with ops := o, fail := q }
variable {S : PD} {o q n : Int} {nm tx : ByteArray}
theorem tw_begin (hl : S.left = -1) : beginS (tw S o q) = tw (beginS S) (o + 1) q ∧ beginE (tw S o q) = 0 ∧ (beginS S).ops = S.ops + 1 ∧ (beginS S).left = -1 ∧ (beginS S).fail = S.fail := by
  have h1 := begin_neg (S := tw S o q) (by show S.left < 0; omega)
  have h2 := begin_neg (S := S) (by omega)
  rw [h1.1, h1.2, h2.1]
  exact ⟨rfl, rfl, rfl, hl, rfl⟩
theorem tw_find : findE (tw S o q) nm = findE S nm := rfl
theorem tw_num : numN (tw S o q) nm = numN S nm := rfl
theorem tw_used : usedD (tw S o q) = usedD S := rfl
theorem tw_setF (i : Int) (f : PF → PF) : setF (tw S o q) i f = tw (setF S i f) o q := rfl
theorem tw_moved (m : PM) : movedS (tw S o q) m = tw (movedS S m) o q := rfl
theorem tw_create (hl : S.left = -1) : createE (tw S o q) nm = createE S nm ∧ createS (tw S o q) nm = tw (createS S nm) (o + 1) q := by
  refine ⟨rfl, ?_⟩
  have h := (tw_begin (S := S) (o := o) (q := q) hl).1
  have e1 : ¬ ((tw S o q).left = 0) := by show ¬ (S.left = 0); omega
  have e2 : ¬ (S.left = 0) := by omega
  unfold createS
  rw [if_neg e1, if_neg e2, h]
  by_cases hn : namedB nm = false
  · rw [if_pos hn, if_pos hn]
  · rw [if_neg hn, if_neg hn]
    by_cases hg : (getN S.names nm).isSome = true
    · rw [if_pos (show (getN (tw S o q).names nm).isSome = true from hg), if_pos hg]
    · rw [if_neg (show ¬ ((getN (tw S o q).names nm).isSome = true) from hg), if_neg hg]
      rfl
theorem tw_cut (hl : S.left = -1) : cutE (tw S o q) nm n = cutE S nm n ∧ cutS (tw S o q) nm n = tw (cutS S nm n) (o + 1) q := by
  refine ⟨rfl, ?_⟩
  have h := (tw_begin (S := S) (o := o) (q := q) hl).1
  unfold cutS
  rw [tw_find, tw_num, h]
  by_cases h0 : findE S nm = 0
  · rw [if_pos h0, if_pos h0]
    by_cases hn : n < 0 ∨ ((nowOf S (numN S nm)).size : Int) < n
    · rw [if_pos (show n < 0 ∨ ((nowOf (tw S o q) (numN S nm)).size : Int) < n from hn), if_pos hn]
    · rw [if_neg (show ¬ (n < 0 ∨ ((nowOf (tw S o q) (numN S nm)).size : Int) < n) from hn), if_neg hn]
      rfl
  · rw [if_neg h0, if_neg h0]
theorem tw_remove (hl : S.left = -1) : removeE (tw S o q) nm = removeE S nm ∧ removeS (tw S o q) nm = tw (removeS S nm) (o + 1) q := by
  refine ⟨rfl, ?_⟩
  have h := (tw_begin (S := S) (o := o) (q := q) hl).1
  unfold removeS
  rw [tw_find, h]
  by_cases h0 : findE S nm = 0
  · rw [if_pos h0, if_pos h0]; rfl
  · rw [if_neg h0, if_neg h0]
theorem tw_syncDir (hl : S.left = -1) : beginE (tw S o q) = beginE S ∧ syncDirS (tw S o q) = tw (syncDirS S) (o + 1) q := by
  have h := tw_begin (S := S) (o := o) (q := q) hl
  refine ⟨rfl, ?_⟩
  unfold syncDirS
  rw [if_neg (show ¬ ((tw S o q).left = 0) by show ¬ (S.left = 0); omega), if_neg (show ¬ (S.left = 0) by omega), h.1]
  rfl
/-- The two, failed so many times. -/
def Twin (f : Int) (Sa Sb : PD) : Prop := Sb.left = -1 ∧ Sb.fail = 0 ∧ ∃ q, Sa = tw Sb (Sb.ops + f) q ∧ ((f = 0 ∧ 1 ≤ q) ∨ (f = 1 ∧ q = 0))
theorem keep_of {S' : PD} (e : S' = tw S o q) : S'.left = S.left := by rw [e]; rfl
theorem fails_tw (hq : q ≠ 1) : failsB (tw S o q) = false ∧ ∃ q2, failsS (tw S o q) = tw S o q2 ∧ (q = 0 → q2 = 0) ∧ (1 ≤ q → 1 ≤ q2) := by
  unfold failsB failsS
  by_cases h : q < 1
  · rw [if_pos (show (tw S o q).fail < 1 from h), if_pos (show (tw S o q).fail < 1 from h)]
    exact ⟨rfl, q, rfl, id, id⟩
  · rw [if_neg (show ¬ (tw S o q).fail < 1 from h), if_neg (show ¬ (tw S o q).fail < 1 from h)]
    refine ⟨decide_eq_false (show ¬ (q = 1) from hq), q - 1, rfl, fun h0 => by omega, fun h1 => by omega⟩
theorem fails_one : failsB (tw S o 1) = true ∧ failsS (tw S o 1) = tw S o 0 := by
  unfold failsB failsS
  rw [if_neg (show ¬ (tw S o 1).fail < 1 by show ¬ (1 : Int) < 1; omega), if_neg (show ¬ (tw S o 1).fail < 1 by show ¬ (1 : Int) < 1; omega)]
  exact ⟨decide_eq_true (show (1 : Int) = 1 from rfl), rfl⟩
theorem fails_b (hf : S.fail = 0) : failsB S = false ∧ failsS S = S := by
  have := fails_zero (S := S) (by omega)
  exact ⟨this.2, this.1⟩
theorem tw_begin_eq (hl : S.left = -1) : beginS S = tw S (S.ops + 1) S.fail := (begin_neg (S := S) (by omega)).1.trans rfl
/-- A call of one kind: the answers and what is left. -/
def Same1 (f : Int) (Sb : PD) (ea : Int) (Sa' : PD) (eb : Int) (Sb' : PD) : Prop :=
  (ea = 10 ∧ f = 0 ∧ Twin 1 Sa' Sb) ∨ (ea ≠ 10 ∧ ea = eb ∧ Twin f Sa' Sb')
theorem Twin.pl {f : Int} {Sa Sb : PD} (h : Twin f Sa Sb) : Sb.left = -1 ∧ Sb.fail = 0 := ⟨h.1, h.2.1⟩
theorem same_of {f : Int} {Sa Sb Sa' Sb' : PD} {ea eb : Int} (h : Twin f Sa Sb) (he : ea = eb) (h10 : eb ≠ 10) (hS : ∀ o q, Sa = tw Sb o q → Sa' = tw Sb' (o + 1) q) (hl : Sb'.left = -1) (hf : Sb'.fail = 0) (ho : Sb'.ops = Sb.ops + 1) : Same1 f Sb ea Sa' eb Sb' := by
  obtain ⟨_, _, q, hq, hc⟩ := h
  refine .inr ⟨by rw [he]; exact h10, he, hl, hf, q, ?_, hc⟩
  rw [hS _ _ hq, ho]
  congr 1
  omega
theorem act_same {f : Int} {Sa Sb : PD} (h : Twin f Sa Sb) (kd : Int) (nm tx : ByteArray) (n : Int) : Same1 f Sb (actE kd Sa nm tx n) (actS kd Sa nm tx n) (actE kd Sb nm tx n) (actS kd Sb nm tx n) := by
  have h' := h
  obtain ⟨hl, hf, q, rfl, hc⟩ := h'
  have bS := tw_begin_eq hl
  have fb : findE Sb nm = 5 ∨ findE Sb nm = 0 := by
    unfold findE
    rw [if_neg (by omega)]
    cases getN Sb.names nm with
    | none => exact .inl rfl
    | some i => exact .inr rfl
  unfold actE actS
  split
  · -- Create
    refine same_of h rfl ?_ (fun o q' e => by rw [e]; exact (tw_create hl).2) ?_ ?_ ?_
    · unfold createE; rw [if_neg (by omega)]; repeat' split
      all_goals decide
    all_goals (unfold createS; rw [if_neg (show ¬ (Sb.left = 0) by omega), bS]; repeat' split)
    all_goals first | exact hl | exact hf | rfl
  · split
    · -- Append
      have hu : usedD (tw Sb (Sb.ops + f) q) = usedD Sb := rfl
      have hr : (tw Sb (Sb.ops + f) q).room = Sb.room := rfl
      have bA : beginS (tw Sb (Sb.ops + f) q) = tw Sb (Sb.ops + f + 1) q := (tw_begin_eq (S := tw Sb (Sb.ops + f) q) hl).trans rfl
      unfold appendE appendS
      rw [tw_find, hu, hr, tw_num, bA, bS, (fails_b hf).1, (fails_b (S := tw Sb (Sb.ops + 1) Sb.fail) hf).2]
      by_cases h0 : findE Sb nm = 0
      · rw [if_pos h0, if_pos h0, if_pos h0, if_pos h0]
        by_cases h1 : Sb.room - usedD Sb < (tx.size : Int)
        · rw [if_pos h1, if_pos h1, if_pos h1, if_pos h1]
          exact .inr ⟨by decide, rfl, hl, hf, q, by show tw Sb (Sb.ops + f + 1) q = tw Sb (Sb.ops + 1 + f) q; congr 1; omega, hc⟩
        · rw [if_neg h1, if_neg h1, if_neg h1, if_neg h1]
          by_cases hq1 : q = 1
          · subst hq1
            rw [fails_one.1, fails_one.2]
            have f0 : f = 0 := by omega
            subst f0
            exact .inl ⟨rfl, rfl, hl, hf, 0, by show tw Sb (Sb.ops + 0 + 1) 0 = tw Sb (Sb.ops + 1) 0; congr 1; omega, .inr ⟨rfl, rfl⟩⟩
          · rw [(fails_tw hq1).1]
            obtain ⟨q2, e2, z1, z2⟩ := (fails_tw (S := Sb) (o := Sb.ops + f + 1) hq1).2
            rw [e2]
            refine .inr ⟨by decide, rfl, hl, hf, q2, ?_, ?_⟩
            · rw [show Sb.ops + f + 1 = Sb.ops + 1 + f by omega]; rfl
            · rcases hc with ⟨a, b⟩ | ⟨a, b⟩
              · exact .inl ⟨a, z2 b⟩
              · exact .inr ⟨a, z1 b⟩
      · rw [if_neg h0, if_neg h0, if_neg h0, if_neg h0]
        exact .inr ⟨by rcases fb with e | e <;> rw [e] <;> decide, rfl, hl, hf, q, by show tw Sb (Sb.ops + f + 1) q = tw Sb (Sb.ops + 1 + f) q; congr 1; omega, hc⟩
    · split
      · -- Cut
        refine same_of h rfl ?_ (fun o q' e => by rw [e]; exact (tw_cut hl).2) ?_ ?_ ?_
        · unfold cutE
          repeat' split
          · decide
          · decide
          · rcases fb with e | e <;> rw [e] <;> decide
        all_goals (unfold cutS; rw [bS]; repeat' split)
        all_goals first | exact hl | exact hf | rfl
      · split
        · -- Sync
          have bA : beginS (tw Sb (Sb.ops + f) q) = tw Sb (Sb.ops + f + 1) q := (tw_begin_eq (S := tw Sb (Sb.ops + f) q) hl).trans rfl
          unfold syncE syncS
          rw [tw_find, tw_num, bA, bS, (fails_b hf).1, (fails_b (S := tw Sb (Sb.ops + 1) Sb.fail) hf).2]
          by_cases h0 : findE Sb nm = 0
          · rw [if_pos h0, if_pos h0, if_pos h0, if_pos h0]
            by_cases hq1 : q = 1
            · subst hq1
              rw [fails_one.1, fails_one.2]
              have f0 : f = 0 := by omega
              subst f0
              exact .inl ⟨rfl, rfl, hl, hf, 0, by show tw Sb (Sb.ops + 0 + 1) 0 = tw Sb (Sb.ops + 1) 0; congr 1; omega, .inr ⟨rfl, rfl⟩⟩
            · rw [(fails_tw hq1).1]
              obtain ⟨q2, e2, z1, z2⟩ := (fails_tw (S := Sb) (o := Sb.ops + f + 1) hq1).2
              rw [e2]
              refine .inr ⟨by decide, rfl, hl, hf, q2, ?_, ?_⟩
              · rw [show Sb.ops + f + 1 = Sb.ops + 1 + f by omega]; rfl
              · rcases hc with ⟨a, b⟩ | ⟨a, b⟩
                · exact .inl ⟨a, z2 b⟩
                · exact .inr ⟨a, z1 b⟩
          · rw [if_neg h0, if_neg h0, if_neg h0, if_neg h0]
            exact .inr ⟨by rcases fb with e | e <;> rw [e] <;> decide, rfl, hl, hf, q, by show tw Sb (Sb.ops + f + 1) q = tw Sb (Sb.ops + 1 + f) q; congr 1; omega, hc⟩
        · split
          · -- Remove
            refine same_of h rfl ?_ (fun o q' e => by rw [e]; exact (tw_remove hl).2) ?_ ?_ ?_
            · unfold removeE; rcases fb with e | e <;> rw [e] <;> decide
            all_goals (unfold removeS; rw [bS]; split)
            all_goals first | exact hl | exact hf | rfl
          · refine same_of h rfl ?_ (fun o q' e => by rw [e]; exact (tw_syncDir hl).2) ?_ ?_ ?_
            · rw [(begin_neg (S := Sb) (by omega)).2]; decide
            all_goals (unfold syncDirS; rw [if_neg (show ¬ (Sb.left = 0) by omega), bS])
            all_goals first | exact hl | exact hf | rfl
theorem tw_crash (dir : Int) (ks : List Int) : crashD (tw S o q) dir ks = crashD S dir ks := rfl
end Go.Proofs.Ytolbicncdookmaa.XDsk
