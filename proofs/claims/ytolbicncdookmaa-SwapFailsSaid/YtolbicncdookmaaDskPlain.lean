/- A disk of power that does not fail: what each operation makes of it. Conditions: none but those that each theorem names. -/
import Derived.Test.YtolbicncdookmaaDskShown

namespace Go.Proofs.Ytolbicncdookmaa.XDsk
open Go Go.RowKit Go.Maps Go.Sort Go.Shelf Go.Proofs.YtolbicncdookmaaW.PrintWords Go.Proofs.YtolbicncdookmaaW.PrintLast Go.Proofs.YtolbicncdookmaaW.PrintMore Go.Proofs.Ytolbicncdookmaa.Num
set_option linter.unusedVariables false
set_option linter.unusedSimpArgs false
def pl (room : Int) (fs : List PF) (ns bs : Names) (ms : List PM) (o : Int) : PD := { room := room, files := fs, names := ns, base := bs, moves := ms, ops := o, fail := 0, left := -1 }
variable {room o i : Int} {fs : List PF} {ns bs : Names} {ms : List PM} {nm tn x : ByteArray}
theorem pl_begin : beginS (pl room fs ns bs ms o) = pl room fs ns bs ms (o + 1) ∧ beginE (pl room fs ns bs ms o) = 0 := begin_neg (S := pl room fs ns bs ms o) (by show (-1 : Int) < 0; decide)
theorem pl_fails : failsS (pl room fs ns bs ms o) = pl room fs ns bs ms o ∧ failsB (pl room fs ns bs ms o) = false := fails_zero (S := pl room fs ns bs ms o) (by show (0 : Int) < 1; decide)
theorem pl_find (hg : getN ns nm = some i) : findE (pl room fs ns bs ms o) nm = 0 := by
  unfold findE; rw [if_neg (by show ¬ ((-1 : Int) = 0); decide)]
  show (match getN ns nm with | none => (5 : Int) | some _ => 0) = 0
  rw [hg]
theorem pl_none (hg : getN ns nm = none) : findE (pl room fs ns bs ms o) nm = 5 ∧ readV (pl room fs ns bs ms o) nm = ByteArray.empty := by
  have h : findE (pl room fs ns bs ms o) nm = 5 := by
    unfold findE; rw [if_neg (by show ¬ ((-1 : Int) = 0); decide)]
    show (match getN ns nm with | none => (5 : Int) | some _ => 0) = 5
    rw [hg]
  exact ⟨h, readV_not (by rw [h]; decide)⟩
theorem pl_num (hg : getN ns nm = some i) : numN (pl room fs ns bs ms o) nm = i := by
  unfold numN
  show (getN ns nm).getD 0 = i
  rw [hg]; rfl
theorem pl_read (hg : getN ns nm = some i) : readV (pl room fs ns bs ms o) nm = nowOf (pl room fs ns bs ms o) i := by
  rw [readV_zero (pl_find hg), pl_num hg]
theorem pl_create (hn : namedB nm = true) (hg : getN ns nm = none) : createE (pl room fs ns bs ms o) nm = 0 ∧ createS (pl room fs ns bs ms o) nm = pl room (fs ++ [⟨ByteArray.empty, ByteArray.empty, []⟩]) (doneN ⟨ByteArray.empty, nm, (fs.length : Int)⟩ ns) bs (ms ++ [⟨ByteArray.empty, nm, (fs.length : Int)⟩]) (o + 1) := by
  have h1 : ¬ ((pl room fs ns bs ms o).left = 0) := by show ¬ ((-1 : Int) = 0); decide
  have h2 : ¬ (namedB nm = false) := by rw [hn]; decide
  have h3 : ¬ ((getN (pl room fs ns bs ms o).names nm).isSome = true) := by show ¬ ((getN ns nm).isSome = true); rw [hg]; decide
  unfold createE createS
  rw [if_neg h1, if_neg h1, if_neg h2, if_neg h2, if_neg h3, if_neg h3, pl_begin.1]
  exact ⟨rfl, rfl⟩
theorem pl_append (hg : getN ns nm = some i) (hu : usedD (pl room fs ns bs ms o) + (x.size : Int) ≤ room) : appendE (pl room fs ns bs ms o) nm x = 0 ∧ appendS (pl room fs ns bs ms o) nm x = pl room (fs.modify i.toNat (addF · x)) ns bs ms (o + 1) := by
  have h1 : ¬ ((pl room fs ns bs ms o).room - usedD (pl room fs ns bs ms o) < (x.size : Int)) := by show ¬ (room - _ < _); omega
  unfold appendE appendS
  rw [pl_find hg, if_pos rfl, if_pos rfl, if_neg h1, if_neg h1, pl_fails.2, pl_begin.1, pl_fails.1, pl_num hg]
  exact ⟨rfl, rfl⟩
theorem pl_sync (hg : getN ns nm = some i) : syncE (pl room fs ns bs ms o) nm = 0 ∧ syncS (pl room fs ns bs ms o) nm = pl room (fs.modify i.toNat syncF) ns bs ms (o + 1) := by
  unfold syncE syncS
  rw [pl_find hg, if_pos rfl, if_pos rfl, pl_fails.2, pl_begin.1, pl_fails.1, pl_num hg]
  exact ⟨rfl, rfl⟩
theorem pl_rename (hg : getN ns nm = some i) (hn : namedB tn = true) : renameE (pl room fs ns bs ms o) nm tn = 0 ∧ renameS (pl room fs ns bs ms o) nm tn = pl room fs (doneN ⟨nm, tn, i⟩ ns) bs (ms ++ [⟨nm, tn, i⟩]) (o + 1) := by
  have h2 : ¬ (namedB tn = false) := by rw [hn]; decide
  unfold renameE renameS
  rw [pl_find hg, if_pos rfl, if_pos rfl, if_neg h2, if_neg h2, pl_begin.1, pl_num hg]
  exact ⟨rfl, rfl⟩
theorem pl_remove (hg : getN ns nm = some i) : removeE (pl room fs ns bs ms o) nm = 0 ∧ removeS (pl room fs ns bs ms o) nm = pl room fs (doneN ⟨nm, ByteArray.empty, 0⟩ ns) bs (ms ++ [⟨nm, ByteArray.empty, 0⟩]) (o + 1) := by
  unfold removeE removeS
  rw [pl_find hg, if_pos rfl, pl_begin.1]
  exact ⟨rfl, rfl⟩
theorem pl_syncDir : syncDirS (pl room fs ns bs ms o) = pl room fs ns ns [] (o + 1) := by
  unfold syncDirS
  rw [if_neg (by show ¬ ((-1 : Int) = 0); decide), pl_begin.1]
  rfl
end Go.Proofs.Ytolbicncdookmaa.XDsk
