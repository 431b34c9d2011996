/- The plain law of chapter 4: samples as bytes. Conditions: none. -/
import Derived.Test.YthaegbiblblccaaGreatDoorNumLib
import Derived.Test.YthaegbiblblccaaGreatDoorXEntP1
namespace Go.Proofs.YthaegbiblblccaaGreatDoor.Smp
open Go.RowKit Go.Proofs.YthaegbiblblccaaGreatDoorW.PrintWords Go.Proofs.YthaegbiblblccaaGreatDoorW.PrintMore Go.Proofs.YthaegbiblblccaaGreatDoor.XEnt Go.Proofs.YthaegbiblblccaaGreatDoor.Num
set_option linter.unusedVariables false
set_option linter.unusedSimpArgs false

abbrev S := S54
abbrev WF (x : S) : Prop := (Lit.int .u64 x.f0).wf = true ∧ (Lit.int .i64 x.f1).wf = true
/-- What is wrong with samples. -/
def rises : S → List S → Bool
  | _, [] => true
  | x, y :: l => decide (x.f0 < y.f0) && rises y l
def chk (l : List S) : Int := match l with
  | [] => 6
  | x :: r => if 20 < l.length then 6 else bif rises x r then 0 else 8
/-- Their bytes, behind the first one. -/
def body (at' step v : Int) : List S → List UInt8
  | [] => []
  | x :: l => enc (zig (wrap64 (wrap64 (wrap64 x.f0 - at') - step))) ++ enc (zig (wrap64 (x.f1 - v))) ++ body (wrap64 x.f0) (wrap64 (wrap64 x.f0 - at')) x.f1 l
def bytes (l : List S) : List UInt8 := match l with
  | [] => []
  | x :: r => enc l.length ++ enc x.f0.toNat ++ enc (zig x.f1) ++ body (wrap64 x.f0) 0 x.f1 r
def putS (l : List S) : ByteArray × Int := if chk l = 0 then (bs (bytes l), 0) else (bs [], chk l)
/-- The rows of a taking. -/
def pairs : Nat → Int → Int → Int → List UInt8 → Option (List S × List UInt8)
  | 0, _, _, _, l => some ([], l)
  | n + 1, at', step, v, l => match dec 0 l with
    | none => none
    | some (a, r) => match dec 0 r with
      | none => none
      | some (b, q) => (pairs n (wrap64 (at' + wrap64 (step + zag a))) (wrap64 (step + zag a)) (wrap64 (v + zag b)) q).map fun p =>
          (⟨IntKind.u64.wrap (wrap64 (at' + wrap64 (step + zag a))), wrap64 (v + zag b)⟩ :: p.1, p.2)
def taken (l : List UInt8) : Option (List S × List UInt8) := match dec 0 l with
  | none => none
  | some (n, r) => if n = 0 ∨ 20 < n then none else match dec 0 r with
    | none => none
    | some (a, q) => match dec 0 q with
      | none => none
      | some (v, t) => match pairs (n - 1) (wrap64 (a : Int)) 0 (zag v) t with
        | none => none
        | some (o, u) => if chk (⟨(a : Int), zag v⟩ :: o) = 0 then some (⟨(a : Int), zag v⟩ :: o, u) else none
def takeS (l : List UInt8) : List S × ByteArray × Int := match taken l with | some (o, u) => (o, bs u, 0) | none => ([], bs [], 2)
end Go.Proofs.YthaegbiblblccaaGreatDoor.Smp
