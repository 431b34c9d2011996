/- swap.Write as a plain function over the plain disk. Conditions: none. -/
import Derived.Test.YtolbicncdookmaaSwpFits
import Derived.Test.YtolbicncdookmaaDskMany
import Derived.Test.YtolbicncdookmaaDskPlain

namespace Go.Proofs.Ytolbicncdookmaa.XDsk
open Go Go.RowKit Go.Maps Go.Sort Go.Shelf Go.Proofs.YtolbicncdookmaaW.PrintWords Go.Proofs.YtolbicncdookmaaW.PrintLast Go.Proofs.YtolbicncdookmaaW.PrintMore Go.Proofs.Ytolbicncdookmaa.Num
set_option linter.unusedVariables false
set_option linter.unusedSimpArgs false
def tmpN (nm : ByteArray) : ByteArray := nm ++ ⟨#[126]⟩
/-- What stands behind the text's write: its error, the disk. -/
def putE (S : PD) (t x : ByteArray) : Int := if appendE S t x = 0 then syncE (appendS S t x) t else appendE S t x
def putS (S : PD) (t x : ByteArray) : PD := if appendE S t x = 0 then syncS (appendS S t x) t else appendS S t x
def writeE (S : PD) (nm x : ByteArray) : Int :=
  if fitsB nm = false then 3 else
  if removeE S (tmpN nm) ≠ 0 ∧ removeE S (tmpN nm) ≠ 5 then removeE S (tmpN nm) else
  if createE (removeS S (tmpN nm)) (tmpN nm) ≠ 0 then createE (removeS S (tmpN nm)) (tmpN nm) else
  if putE (createS (removeS S (tmpN nm)) (tmpN nm)) (tmpN nm) x ≠ 0 then putE (createS (removeS S (tmpN nm)) (tmpN nm)) (tmpN nm) x else
  if renameE (putS (createS (removeS S (tmpN nm)) (tmpN nm)) (tmpN nm) x) (tmpN nm) nm ≠ 0 then renameE (putS (createS (removeS S (tmpN nm)) (tmpN nm)) (tmpN nm) x) (tmpN nm) nm else
  beginE (renameS (putS (createS (removeS S (tmpN nm)) (tmpN nm)) (tmpN nm) x) (tmpN nm) nm)
def writeS (S : PD) (nm x : ByteArray) : PD :=
  if fitsB nm = false then S else
  if removeE S (tmpN nm) ≠ 0 ∧ removeE S (tmpN nm) ≠ 5 then removeS S (tmpN nm) else
  if createE (removeS S (tmpN nm)) (tmpN nm) ≠ 0 then createS (removeS S (tmpN nm)) (tmpN nm) else
  if putE (createS (removeS S (tmpN nm)) (tmpN nm)) (tmpN nm) x ≠ 0 then removeS (putS (createS (removeS S (tmpN nm)) (tmpN nm)) (tmpN nm) x) (tmpN nm) else
  if renameE (putS (createS (removeS S (tmpN nm)) (tmpN nm)) (tmpN nm) x) (tmpN nm) nm ≠ 0 then renameS (putS (createS (removeS S (tmpN nm)) (tmpN nm)) (tmpN nm) x) (tmpN nm) nm else
  syncDirS (renameS (putS (createS (removeS S (tmpN nm)) (tmpN nm)) (tmpN nm) x) (tmpN nm) nm)
theorem Good.put {c : Nat} {S : PD} (g : Good c S) (t x : ByteArray) : Good (c + 6 + x.size) (putS S t x) := by
  unfold putS
  have h := g.append t x
  split
  · exact (h.sync t).mono (by omega)
  · exact h.mono (by omega)
theorem tmp_size (nm : ByteArray) : (tmpN nm).size = nm.size + 1 := by unfold tmpN; rw [ByteArray.size_append]; rfl
theorem Good.write {c : Nat} {S : PD} (g : Good c S) (nm x : ByteArray) (hn : nm.size ≤ 999999) : Good (c + 18 + x.size) (writeS S nm x) := by
  have ht : (tmpN nm).size ≤ 1000000 := by rw [tmp_size]; omega
  have g1 := g.remove (tmpN nm) ht
  have g2 := g1.create (tmpN nm) ht
  have g3 := g2.put (tmpN nm) x
  have g4 := g3.rename (tmpN nm) nm ht (by omega)
  unfold writeS
  split
  · exact g.mono (by omega)
  · split
    · exact g1.mono (by omega)
    · split
      · exact g2.mono (by omega)
      · split
        · exact (g3.remove (tmpN nm) ht).mono (by omega)
        · split
          · exact g4.mono (by omega)
          · exact g4.syncDir.mono (by omega)
end Go.Proofs.Ytolbicncdookmaa.XDsk
