/- SwapFails: a write on a disk that fails soon, or that has not the room: the elder text stays. Conditions: lengths. -/
import Derived.Test.YtolbicncdookmaaSwpNm

namespace Go.Proofs.Ytolbicncdookmaa.XDsk
open Go Go.RowKit Go.Maps Go.Sort Go.Shelf Go.Proofs.YtolbicncdookmaaW.PrintWords Go.Proofs.YtolbicncdookmaaW.PrintLast Go.Proofs.YtolbicncdookmaaW.PrintMore Go.Proofs.Ytolbicncdookmaa.Num
set_option linter.unusedVariables false
set_option linter.unusedSimpArgs false
/-- A disk of power that fails so soon. -/
def fl (room : Int) (fs : List PF) (ns bs : Names) (ms : List PM) (o q : Int) : PD := { room := room, files := fs, names := ns, base := bs, moves := ms, ops := o, fail := q, left := -1 }
variable {room o i q : Int} {fs : List PF} {ns bs : Names} {ms : List PM} {nm tn x : ByteArray}
theorem fl_begin : beginS (fl room fs ns bs ms o q) = fl room fs ns bs ms (o + 1) q ∧ beginE (fl room fs ns bs ms o q) = 0 := begin_neg (S := fl room fs ns bs ms o q) (by show (-1 : Int) < 0; decide)
theorem fl_find (hg : getN ns nm = some i) : findE (fl room fs ns bs ms o q) nm = 0 := by
  unfold findE; rw [if_neg (by show ¬ ((-1 : Int) = 0); decide)]
  show (match getN ns nm with | none => (5 : Int) | some _ => 0) = 0
  rw [hg]
theorem fl_none (hg : getN ns nm = none) : findE (fl room fs ns bs ms o q) nm = 5 := by
  unfold findE; rw [if_neg (by show ¬ ((-1 : Int) = 0); decide)]
  show (match getN ns nm with | none => (5 : Int) | some _ => 0) = 5
  rw [hg]
theorem fl_num (hg : getN ns nm = some i) : numN (fl room fs ns bs ms o q) nm = i := by
  unfold numN
  show (getN ns nm).getD 0 = i
  rw [hg]; rfl
theorem fl_create (hn : namedB nm = true) (hg : getN ns nm = none) : createE (fl room fs ns bs ms o q) nm = 0 ∧ createS (fl room fs ns bs ms o q) nm = fl room (fs ++ [⟨ByteArray.empty, ByteArray.empty, []⟩]) (doneN ⟨ByteArray.empty, nm, (fs.length : Int)⟩ ns) bs (ms ++ [⟨ByteArray.empty, nm, (fs.length : Int)⟩]) (o + 1) q := by
  have h1 : ¬ ((fl room fs ns bs ms o q).left = 0) := by show ¬ ((-1 : Int) = 0); decide
  have h2 : ¬ (namedB nm = false) := by rw [hn]; decide
  have h3 : ¬ ((getN (fl room fs ns bs ms o q).names nm).isSome = true) := by show ¬ ((getN ns nm).isSome = true); rw [hg]; decide
  unfold createE createS
  rw [if_neg h1, if_neg h1, if_neg h2, if_neg h2, if_neg h3, if_neg h3, fl_begin.1]
  exact ⟨rfl, rfl⟩
theorem fl_failsB : failsB (fl room fs ns bs ms o q) = if q < 1 then false else decide (q = 1) := rfl
theorem fl_failsS : failsS (fl room fs ns bs ms o q) = if q < 1 then fl room fs ns bs ms o q else fl room fs ns bs ms o (q - 1) := rfl
theorem fl_append (hg : getN ns nm = some i) (hu : usedD (fl room fs ns bs ms o q) + (x.size : Int) ≤ room) (hq : 1 ≤ q) : (q = 1 → appendE (fl room fs ns bs ms o q) nm x = 10 ∧ appendS (fl room fs ns bs ms o q) nm x = fl room fs ns bs ms (o + 1) 0) ∧ (q ≠ 1 → appendE (fl room fs ns bs ms o q) nm x = 0 ∧ appendS (fl room fs ns bs ms o q) nm x = fl room (fs.modify i.toNat (addF · x)) ns bs ms (o + 1) (q - 1)) := by
  have h1 : ¬ ((fl room fs ns bs ms o q).room - usedD (fl room fs ns bs ms o q) < (x.size : Int)) := by show ¬ (room - _ < _); omega
  have hq1 : ¬ q < 1 := by omega
  unfold appendE appendS
  rw [fl_find hg, if_pos rfl, if_pos rfl, if_neg h1, if_neg h1, fl_failsB, fl_begin.1, fl_failsS, fl_num hg, if_neg hq1, if_neg hq1]
  refine ⟨fun h => ?_, fun h => ?_⟩
  · subst h; exact ⟨rfl, rfl⟩
  · rw [decide_eq_false h]; exact ⟨rfl, rfl⟩
theorem fl_full (hg : getN ns nm = some i) (hu : room - usedD (fl room fs ns bs ms o q) < (x.size : Int)) : appendE (fl room fs ns bs ms o q) nm x = 9 ∧ appendS (fl room fs ns bs ms o q) nm x = fl room fs ns bs ms (o + 1) q := by
  have h1 : (fl room fs ns bs ms o q).room - usedD (fl room fs ns bs ms o q) < (x.size : Int) := hu
  unfold appendE appendS
  rw [fl_find hg, if_pos rfl, if_pos rfl, if_pos h1, if_pos h1, fl_begin.1]
  exact ⟨rfl, rfl⟩
theorem fl_sync (hg : getN ns nm = some i) (hq : 1 ≤ q) : (q = 1 → syncE (fl room fs ns bs ms o q) nm = 10 ∧ syncS (fl room fs ns bs ms o q) nm = fl room fs ns bs ms (o + 1) 0) ∧ (q ≠ 1 → syncE (fl room fs ns bs ms o q) nm = 0 ∧ syncS (fl room fs ns bs ms o q) nm = fl room (fs.modify i.toNat syncF) ns bs ms (o + 1) (q - 1)) := by
  have hq1 : ¬ q < 1 := by omega
  unfold syncE syncS
  rw [fl_find hg, if_pos rfl, if_pos rfl, fl_failsB, fl_begin.1, fl_failsS, fl_num hg, if_neg hq1, if_neg hq1]
  refine ⟨fun h => ?_, fun h => ?_⟩
  · subst h; exact ⟨rfl, rfl⟩
  · rw [decide_eq_false h]; exact ⟨rfl, rfl⟩
theorem fl_remove (hg : getN ns nm = some i) : removeS (fl room fs ns bs ms o q) nm = fl room fs (doneN ⟨nm, ByteArray.empty, 0⟩ ns) bs (ms ++ [⟨nm, ByteArray.empty, 0⟩]) (o + 1) q := by
  unfold removeS
  rw [fl_find hg, if_pos rfl, fl_begin.1]
  rfl
theorem fl_removeNo (hg : getN ns nm = none) : removeE (fl room fs ns bs ms o q) nm = 5 ∧ removeS (fl room fs ns bs ms o q) nm = fl room fs ns bs ms (o + 1) q := by
  have h := fl_none (room := room) (fs := fs) (bs := bs) (ms := ms) (o := o) (q := q) hg
  unfold removeE removeS
  rw [h, if_neg (by decide), fl_begin.1]
  exact ⟨rfl, rfl⟩
theorem fl_rename (hg : getN ns nm = some i) (hn : namedB tn = true) : renameE (fl room fs ns bs ms o q) nm tn = 0 ∧ renameS (fl room fs ns bs ms o q) nm tn = fl room fs (doneN ⟨nm, tn, i⟩ ns) bs (ms ++ [⟨nm, tn, i⟩]) (o + 1) q := by
  have h2 : ¬ (namedB tn = false) := by rw [hn]; decide
  unfold renameE renameS
  rw [fl_find hg, if_pos rfl, if_pos rfl, if_neg h2, if_neg h2, fl_begin.1, fl_num hg]
  exact ⟨rfl, rfl⟩
theorem fl_syncDir : syncDirS (fl room fs ns bs ms o q) = fl room fs ns ns [] (o + 1) q := by
  unfold syncDirS
  rw [if_neg (by show ¬ ((-1 : Int) = 0); decide), fl_begin.1]
  rfl
end Go.Proofs.Ytolbicncdookmaa.XDsk
