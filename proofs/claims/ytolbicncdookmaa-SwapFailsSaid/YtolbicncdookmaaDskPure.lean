/- A disk as a plain value: files by numbers, names, what stays, the changes of names since; what each operation makes of it. Conditions: none. -/
import GoSem.ClaimWide
namespace Go.Proofs.Ytolbicncdookmaa.XDsk
open Go
/-- A file: what it had when it was synced, what it has, what was done since (a text, -1; or "", how many bytes were left). -/
structure PF where
  base : ByteArray
  now : ByteArray
  ch : List (ByteArray × Int)
/-- A change of names. -/
structure PM where
  src : ByteArray
  dst : ByteArray
  file : Int
abbrev Names := List (ByteArray × Int)
structure PD where
  room : Int
  files : List PF
  names : Names
  base : Names
  moves : List PM
  ops : Int
  fail : Int
  left : Int
def isK (s : ByteArray) (p : ByteArray × Int) : Bool := p.1.data.toList == s.data.toList
def getN (m : Names) (s : ByteArray) : Option Int := (m.find? (isK s)).map (·.2)
def delN (m : Names) (s : ByteArray) : Names := m.filter (fun p => !isK s p)
def insN (x : ByteArray × Int) : Names → Names
  | [] => [x]
  | y :: l => if bytesBefore x.1.data.toList y.1.data.toList then x :: y :: l else y :: insN x l
def putN (m : Names) (s : ByteArray) (i : Int) : Names := insN (s, i) (delN m s)
def doneN (m : PM) (n : Names) : Names := if m.dst.data.toList = [] then delN n m.src else putN (delN n m.src) m.dst m.file
def newD (room : Int) : PD := { room := max room 0, files := [], names := [], base := [], moves := [], ops := 0, fail := 0, left := -1 }
def beginS (S : PD) : PD := if S.left = 0 then S else { S with left := if S.left > 0 then S.left - 1 else S.left, ops := S.ops + 1 }
def beginE (S : PD) : Int := if S.left = 0 then 11 else 0
/-- What find tells: 11 (there is no power), 5 (there is no such file), 0. -/
def findE (S : PD) (name : ByteArray) : Int := if S.left = 0 then 11 else match getN S.names name with | none => 5 | some _ => 0
def failsS (S : PD) : PD := if S.fail < 1 then S else { S with fail := S.fail - 1 }
def failsB (S : PD) : Bool := if S.fail < 1 then false else decide (S.fail = 1)
def movedS (S : PD) (m : PM) : PD := { S with names := doneN m S.names, moves := S.moves ++ [m] }
def nowOf (S : PD) (i : Int) : ByteArray := match S.files[i.toNat]? with | some f => f.now | none => ByteArray.empty
def usedN (S : PD) (l : Names) : Int := (l.map fun p => ((nowOf S p.2).size : Int)).sum
def usedD (S : PD) : Int := usedN S S.names
def setF (S : PD) (i : Int) (f : PF → PF) : PD := { S with files := S.files.modify i.toNat f }
def addF (f : PF) (s : ByteArray) : PF := { f with now := f.now ++ s, ch := f.ch ++ [(s, -1)] }
def cutF (f : PF) (n : Int) : PF := { f with now := f.now.extract 0 n.toNat, ch := f.ch ++ [(ByteArray.empty, n)] }
def syncF (f : PF) : PF := { f with base := f.now, ch := [] }
def numN (S : PD) (name : ByteArray) : Int := (getN S.names name).getD 0
/-- A name: 1 to 24 bytes, each 33 to 126. -/
def namedB (s : ByteArray) : Bool := s.data.toList.all (fun c => decide (33 ≤ c.toNat) && decide (c.toNat ≤ 126)) && decide (1 ≤ s.size) && decide (s.size ≤ 24)
def createS (S : PD) (name : ByteArray) : PD :=
  if S.left = 0 then S else if namedB name = false then beginS S else if (getN S.names name).isSome then beginS S else
  movedS { beginS S with files := S.files ++ [⟨ByteArray.empty, ByteArray.empty, []⟩] } ⟨ByteArray.empty, name, (S.files.length : Int)⟩
def createE (S : PD) (name : ByteArray) : Int := if S.left = 0 then 11 else if namedB name = false then 3 else if (getN S.names name).isSome then 4 else 0
def appendS (S : PD) (name s : ByteArray) : PD :=
  if findE S name = 0 then (if S.room - usedD S < (s.size : Int) then beginS S else if failsB S then failsS (beginS S) else setF (failsS (beginS S)) (numN S name) (addF · s)) else beginS S
def appendE (S : PD) (name s : ByteArray) : Int := if findE S name = 0 then (if S.room - usedD S < (s.size : Int) then 9 else if failsB S then 10 else 0) else findE S name
def cutS (S : PD) (name : ByteArray) (n : Int) : PD :=
  if findE S name = 0 then (if n < 0 ∨ ((nowOf S (numN S name)).size : Int) < n then beginS S else setF (beginS S) (numN S name) (cutF · n)) else beginS S
def cutE (S : PD) (name : ByteArray) (n : Int) : Int := if findE S name = 0 then (if n < 0 ∨ ((nowOf S (numN S name)).size : Int) < n then 1 else 0) else findE S name
def syncS (S : PD) (name : ByteArray) : PD := if findE S name = 0 then (if failsB S then failsS (beginS S) else setF (failsS (beginS S)) (numN S name) syncF) else beginS S
def syncE (S : PD) (name : ByteArray) : Int := if findE S name = 0 then (if failsB S then 10 else 0) else findE S name
def renameS (S : PD) (fr to : ByteArray) : PD := if findE S fr = 0 then (if namedB to = false then beginS S else movedS (beginS S) ⟨fr, to, numN S fr⟩) else beginS S
def renameE (S : PD) (fr to : ByteArray) : Int := if findE S fr = 0 then (if namedB to = false then 3 else 0) else findE S fr
def removeS (S : PD) (name : ByteArray) : PD := if findE S name = 0 then movedS (beginS S) ⟨name, ByteArray.empty, 0⟩ else beginS S
def removeE (S : PD) (name : ByteArray) : Int := findE S name
def syncDirS (S : PD) : PD := if S.left = 0 then S else { beginS S with base := S.names, moves := [] }
def readV (S : PD) (name : ByteArray) : ByteArray := if findE S name = 0 then nowOf S (numN S name) else ByteArray.empty
def failS (S : PD) (n : Int) : PD := { S with fail := max n 0 }
def stopS (S : PD) (n : Int) : PD := { S with left := max n (-1) }
/-- A file behind so many moments. -/
def atL : List (ByteArray × Int) → Int → ByteArray → ByteArray
  | [], _, s => s
  | (t, c) :: r, m, s => if m ≤ 0 then s else if c = -1 then atL r (m - min m (t.size : Int)) (s ++ t.extract 0 (min m (t.size : Int)).toNat) else atL r (m - 1) (s.extract 0 c.toNat)
def atF (f : PF) (m : Int) : ByteArray := atL f.ch m f.base
/-- What was cut could be cut. -/
def chOk : List (ByteArray × Int) → Nat → Prop
  | [], _ => True
  | (t, c) :: r, n => if c = -1 then chOk r (n + t.size) else (0 ≤ c ∧ c ≤ (n : Int)) ∧ chOk r c.toNat
/-- The names that are left of those that stay and so many changes. -/
def keptN (S : PD) (dir : Int) : Names := (S.moves.take (max 0 (min dir (S.moves.length : Int))).toNat).foldl (fun n m => doneN m n) S.base
def momentsOf (ks : List Int) (i : Int) : Int := if i < (ks.length : Int) then ks.getD i.toNat 0 else 0
def nameOf (n : Names) (i : Int) : ByteArray := ((n.find? (fun p => p.2 == i)).map (·.1)).getD ByteArray.empty
def fileOf (S : PD) (i : Int) : PF := (S.files[i.toNat]?).getD ⟨ByteArray.empty, ByteArray.empty, []⟩
def crashStep (S : PD) (ks : List Int) (n : Names) (out : PD) (i : Int) : PD :=
  { out with names := putN out.names (nameOf n i) (out.files.length : Int), files := out.files ++ [⟨atF (fileOf S i) (momentsOf ks i), atF (fileOf S i) (momentsOf ks i), []⟩] }
def numsOf (n : Names) : List Int := (n.map (·.2)).mergeSort (fun x y => decide (x ≤ y))
def crashFill (S : PD) (dir : Int) (ks : List Int) : PD := (numsOf (keptN S dir)).foldl (crashStep S ks (keptN S dir)) (newD S.room)
def crashD (S : PD) (dir : Int) (ks : List Int) : PD := { crashFill S dir ks with base := (crashFill S dir ks).names }
end Go.Proofs.Ytolbicncdookmaa.XDsk
