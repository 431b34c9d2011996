/- Texts of this seat, in one. Conditions: those that each theorem names. -/
import Derived.Test.YtmbigoeldobaiaaDoorProg
import Derived.Below
import Derived.Deep.Draws
import Derived.Deep.AppendLies
import Derived.Maps.AppendAt
import Derived.OwnWalk
import Derived.Laws.BytesArg
import Derived.Laws.MakeOwn
import Derived.Laws.OwnMore
import Derived.Deep.OwnRows
import Derived.Tactics
import Derived.Lib.ConvBytes
import Derived.Laws.Slices
import Derived.WalkKit
import Derived.KernelRfl
import Derived.RowKit3
import Derived.Deep.LoopGhost
import Derived.Deep.QuietTactic
import Derived.BigQuiet
import Derived.WideLaws
import Derived.Deep.DeepCutAuto
import Derived.Deep.CutBlock
import Derived.Deep.RegionHeld3
import Derived.Laws.Rows
import Derived.Lib.AppendStr
import Derived.ArgAppend
import Derived.Laws.IdiomCopy
import Derived.OrdersHeld
import Derived.Laws.BitsLemmas
import Derived.RowKit
import Derived.Test.YtmbigoeldobaiaaDoorStrOps
import Derived.Test.YtmbigoeldobaiaaDoorWCore
import Derived.Test.YtmbigoeldobaiaaDoorWRest
section
/- What the functions of the translation answer, each as a plain Lean function, and that the code comes to it; for a law: its row. Conditions: none but those that each theorem names. Written by a program of this session (wip/xp). -/
namespace Go.Proofs.YtmbigoeldobaiaaDoor.XMrk
open Go.RowKit Go.Proofs.YtmbigoeldobaiaaDoorW.PrintWords Go.Proofs.YtmbigoeldobaiaaDoorW.PrintLast Go.Proofs.YtmbigoeldobaiaaDoorW.PrintMore
attribute [local go_sem] max2_int min2_int max_two min_two max_three min_three max_four min_four   -- for this text's walks alone
set_option linter.unusedVariables false
set_option linter.unusedSimpArgs false



def errW : Option Int → Value
  | none => .nilIface
  | some c => .iface 0 (.int .i64 c)
theorem info5 : (Tryd.prog.info? 5).map (fun i => (i.zero, i.size, i.bytes)) = some (some (.int .u8 0), 1, 1) := by kernel_rfl
theorem info22 : (Tryd.prog.info? 22).map (fun i => (i.zero, i.size, i.bytes)) = some (some (.int .u64 0), 1, 8) := by kernel_rfl
theorem info55 : (Tryd.prog.info? 55).map (fun i => (i.zero, i.size, i.bytes)) = some (some (.agg #[(.string ⟨#[]⟩), (.int .u64 0), (.int .u64 0), (.slice none 0 0), (.int .u64 0), (.int .u64 0), (.int .u64 0)]), 7, 80) := by kernel_rfl
theorem info57 : (Tryd.prog.info? 57).map (fun i => (i.zero, i.size, i.bytes)) = some (some (.agg #[(.string ⟨#[]⟩), (.int .u64 0), (.int .u64 0), (.slice none 0 0), (.int .u64 0), (.int .u64 0), (.int .u64 0)]), 7, 80) := by kernel_rfl
-- the values' own types
def rd_L3 (xs : List (List Int)) (i : Int) : (List Int) := xs.getD i.toNat ([] : List Int)
/-! #### struct type 55 -/
structure S55 where
  f0 : ByteArray
  f1 : Int
  f2 : Int
  f3 : (List Int)
  f4 : Int
  f5 : Int
  f6 : Int
def z55 : S55 := ⟨(⟨#[]⟩ : ByteArray), (0 : Int), (0 : Int), ([] : List Int), (0 : Int), (0 : Int), (0 : Int)⟩
def k55 : Kd S55 := Kd.iso (Kd.pair Kd.string (Kd.pair (Kd.int .u64) (Kd.pair (Kd.int .u64) (Kd.pair (Kd.slice 22 (Kd.int .u64)) (Kd.pair (Kd.int .u64) (Kd.pair (Kd.int .u64) (Kd.int .u64))))))) (fun x : S55 => (x.f0, x.f1, x.f2, x.f3, x.f4, x.f5, x.f6))
theorem k55_open {w : World} {x : S55} {cs : List Value} (h : k55.K w x cs) : ∃ A3 c3, cs = [.string x.f0, .int .u64 x.f1, .int .u64 x.f2, .slice A3 x.f3.length c3, .int .u64 x.f4, .int .u64 x.f5, .int .u64 x.f6] ∧ x.f3.length ≤ c3 ∧ (Kd.int .u64).C w A3 x.f3.length x.f3 := by
  obtain ⟨_, _, rfl, rfl, ⟨_, _, rfl, rfl, ⟨_, _, rfl, rfl, ⟨_, _, rfl, ⟨A3, c3, rfl, l3, g3⟩, ⟨_, _, rfl, rfl, ⟨_, _, rfl, rfl, rfl⟩⟩⟩⟩⟩⟩ := h
  exact ⟨A3, c3, rfl, l3, g3⟩
theorem k55_mk (w : World) (x : S55) {A3 : Option Addr} {c3 : Nat} (l3 : x.f3.length ≤ c3) (g3 : (Kd.int .u64).C w A3 x.f3.length x.f3) : k55.K w x [.string x.f0, .int .u64 x.f1, .int .u64 x.f2, .slice A3 x.f3.length c3, .int .u64 x.f4, .int .u64 x.f5, .int .u64 x.f6] := ⟨[.string x.f0], [.int .u64 x.f1, .int .u64 x.f2, .slice A3 x.f3.length c3, .int .u64 x.f4, .int .u64 x.f5, .int .u64 x.f6], rfl, rfl, ⟨[.int .u64 x.f1], [.int .u64 x.f2, .slice A3 x.f3.length c3, .int .u64 x.f4, .int .u64 x.f5, .int .u64 x.f6], rfl, rfl, ⟨[.int .u64 x.f2], [.slice A3 x.f3.length c3, .int .u64 x.f4, .int .u64 x.f5, .int .u64 x.f6], rfl, rfl, ⟨[.slice A3 x.f3.length c3], [.int .u64 x.f4, .int .u64 x.f5, .int .u64 x.f6], rfl, ⟨A3, c3, rfl, l3, g3⟩, ⟨[.int .u64 x.f4], [.int .u64 x.f5, .int .u64 x.f6], rfl, rfl, ⟨[.int .u64 x.f5], [.int .u64 x.f6], rfl, rfl, rfl⟩⟩⟩⟩⟩⟩
theorem k55_mkM (w : World) (base : Nat) (ok : Nat → Prop) (x : S55) {v3 : Value} (g3 : (Kd.int .u64).R 22 w base ok v3 x.f3) : k55.M w base ok x [.string x.f0, .int .u64 x.f1, .int .u64 x.f2, v3, .int .u64 x.f4, .int .u64 x.f5, .int .u64 x.f6] := ⟨[.string x.f0], [.int .u64 x.f1, .int .u64 x.f2, v3, .int .u64 x.f4, .int .u64 x.f5, .int .u64 x.f6], rfl, rfl, ⟨[.int .u64 x.f1], [.int .u64 x.f2, v3, .int .u64 x.f4, .int .u64 x.f5, .int .u64 x.f6], rfl, rfl, ⟨[.int .u64 x.f2], [v3, .int .u64 x.f4, .int .u64 x.f5, .int .u64 x.f6], rfl, rfl, ⟨[v3], [.int .u64 x.f4, .int .u64 x.f5, .int .u64 x.f6], rfl, ⟨v3, rfl, g3⟩, ⟨[.int .u64 x.f4], [.int .u64 x.f5, .int .u64 x.f6], rfl, rfl, ⟨[.int .u64 x.f5], [.int .u64 x.f6], rfl, rfl, rfl⟩⟩⟩⟩⟩⟩
theorem k55_openF {W : World} {ok : Nat → Prop} {x : S55} {cs : List Value} (h : Kd.FK k55 W ok x cs) : ∃ A3 c3, cs = [.string x.f0, .int .u64 x.f1, .int .u64 x.f2, .slice A3 x.f3.length c3, .int .u64 x.f4, .int .u64 x.f5, .int .u64 x.f6] ∧ x.f3.length ≤ c3 ∧ Kd.F (Kd.int .u64) W ok A3 x.f3.length x.f3 := by
  obtain ⟨A3, c3, rfl, l3, _⟩ := k55_open (Kd.FK_now h)
  exact ⟨A3, c3, rfl, l3, (fun W' hW => by obtain ⟨A3_, c3_, he, l3_, g3_⟩ := k55_open (h W' hW); injection (Option.some.inj (show some (Value.slice A3 x.f3.length c3) = some (Value.slice A3_ x.f3.length c3_) from congrArg (fun l => l[3]?) he)) with ha_ _ _; rw [ha_]; exact g3_)⟩
theorem k55_mkF (W : World) (ok : Nat → Prop) (x : S55) {A3 : Option Addr} {c3 : Nat} (l3 : x.f3.length ≤ c3) (g3 : Kd.F (Kd.int .u64) W ok A3 x.f3.length x.f3) : Kd.FK k55 W ok x [.string x.f0, .int .u64 x.f1, .int .u64 x.f2, .slice A3 x.f3.length c3, .int .u64 x.f4, .int .u64 x.f5, .int .u64 x.f6] := fun W2 hW => k55_mk W2 x l3 (g3 W2 hW)
def rd_T55 (xs : List S55) (i : Int) : S55 := xs.getD i.toNat z55
theorem at_T55 {w : World} {A : Option Addr} {n : Nat} {xs : List S55} (h : Kd.C k55 w A n xs) (i : Int) (h0 : 0 ≤ i) (h1 : i < n) : ∃ ad A3 c3, A = some ad ∧ w.cell? (ad.add (i.toNat * 7)) = some (.string (rd_T55 xs i).f0) ∧ w.cell? ⟨(ad.add (i.toNat * 7)).block, (ad.add (i.toNat * 7)).off + 1, none⟩ = some (.int .u64 (rd_T55 xs i).f1) ∧ w.cell? ⟨(ad.add (i.toNat * 7)).block, (ad.add (i.toNat * 7)).off + 2, none⟩ = some (.int .u64 (rd_T55 xs i).f2) ∧ w.cell? ⟨(ad.add (i.toNat * 7)).block, (ad.add (i.toNat * 7)).off + 3, none⟩ = some (.slice A3 (rd_T55 xs i).f3.length c3) ∧ w.cell? ⟨(ad.add (i.toNat * 7)).block, (ad.add (i.toNat * 7)).off + 4, none⟩ = some (.int .u64 (rd_T55 xs i).f4) ∧ w.cell? ⟨(ad.add (i.toNat * 7)).block, (ad.add (i.toNat * 7)).off + 5, none⟩ = some (.int .u64 (rd_T55 xs i).f5) ∧ w.cell? ⟨(ad.add (i.toNat * 7)).block, (ad.add (i.toNat * 7)).off + 6, none⟩ = some (.int .u64 (rd_T55 xs i).f6) ∧ (rd_T55 xs i).f3.length ≤ c3 ∧ (Kd.int .u64).C w A3 (rd_T55 xs i).f3.length (rd_T55 xs i).f3 := by
  obtain ⟨ad, c, e, _, hK, hc0⟩ := Kd.C_get h z55 i h0 h1
  have hc : ∀ j u, c[j]? = some u → w.cell? (ad.add (i.toNat * 7 + j)) = some u := hc0
  obtain ⟨A3, c3, rfl, l3, g3⟩ := k55_open hK
  exact ⟨ad, A3, c3, e, hc 0 _ rfl, by rw [← add_field _ _ 1 (by omega)]; exact hc 1 _ rfl, by rw [← add_field _ _ 2 (by omega)]; exact hc 2 _ rfl, by rw [← add_field _ _ 3 (by omega)]; exact hc 3 _ rfl, by rw [← add_field _ _ 4 (by omega)]; exact hc 4 _ rfl, by rw [← add_field _ _ 5 (by omega)]; exact hc 5 _ rfl, by rw [← add_field _ _ 6 (by omega)]; exact hc 6 _ rfl, l3, g3⟩

def rd_L5 (xs : List (List S55)) (i : Int) : (List S55) := xs.getD i.toNat ([] : List S55)
/-! #### struct type 57 -/
structure S57 where
  f0 : ByteArray
  f1 : Int
  f2 : Int
  f3 : (List Int)
  f4 : Int
  f5 : Int
  f6 : Int
def z57 : S57 := ⟨(⟨#[]⟩ : ByteArray), (0 : Int), (0 : Int), ([] : List Int), (0 : Int), (0 : Int), (0 : Int)⟩
def k57 : Kd S57 := Kd.iso (Kd.pair Kd.string (Kd.pair (Kd.int .u64) (Kd.pair (Kd.int .u64) (Kd.pair (Kd.slice 22 (Kd.int .u64)) (Kd.pair (Kd.int .u64) (Kd.pair (Kd.int .u64) (Kd.int .u64))))))) (fun x : S57 => (x.f0, x.f1, x.f2, x.f3, x.f4, x.f5, x.f6))
theorem k57_open {w : World} {x : S57} {cs : List Value} (h : k57.K w x cs) : ∃ A3 c3, cs = [.string x.f0, .int .u64 x.f1, .int .u64 x.f2, .slice A3 x.f3.length c3, .int .u64 x.f4, .int .u64 x.f5, .int .u64 x.f6] ∧ x.f3.length ≤ c3 ∧ (Kd.int .u64).C w A3 x.f3.length x.f3 := by
  obtain ⟨_, _, rfl, rfl, ⟨_, _, rfl, rfl, ⟨_, _, rfl, rfl, ⟨_, _, rfl, ⟨A3, c3, rfl, l3, g3⟩, ⟨_, _, rfl, rfl, ⟨_, _, rfl, rfl, rfl⟩⟩⟩⟩⟩⟩ := h
  exact ⟨A3, c3, rfl, l3, g3⟩
theorem k57_mk (w : World) (x : S57) {A3 : Option Addr} {c3 : Nat} (l3 : x.f3.length ≤ c3) (g3 : (Kd.int .u64).C w A3 x.f3.length x.f3) : k57.K w x [.string x.f0, .int .u64 x.f1, .int .u64 x.f2, .slice A3 x.f3.length c3, .int .u64 x.f4, .int .u64 x.f5, .int .u64 x.f6] := ⟨[.string x.f0], [.int .u64 x.f1, .int .u64 x.f2, .slice A3 x.f3.length c3, .int .u64 x.f4, .int .u64 x.f5, .int .u64 x.f6], rfl, rfl, ⟨[.int .u64 x.f1], [.int .u64 x.f2, .slice A3 x.f3.length c3, .int .u64 x.f4, .int .u64 x.f5, .int .u64 x.f6], rfl, rfl, ⟨[.int .u64 x.f2], [.slice A3 x.f3.length c3, .int .u64 x.f4, .int .u64 x.f5, .int .u64 x.f6], rfl, rfl, ⟨[.slice A3 x.f3.length c3], [.int .u64 x.f4, .int .u64 x.f5, .int .u64 x.f6], rfl, ⟨A3, c3, rfl, l3, g3⟩, ⟨[.int .u64 x.f4], [.int .u64 x.f5, .int .u64 x.f6], rfl, rfl, ⟨[.int .u64 x.f5], [.int .u64 x.f6], rfl, rfl, rfl⟩⟩⟩⟩⟩⟩
theorem k57_mkF (W : World) (ok : Nat → Prop) (x : S57) {A3 : Option Addr} {c3 : Nat} (l3 : x.f3.length ≤ c3) (g3 : Kd.F (Kd.int .u64) W ok A3 x.f3.length x.f3) : Kd.FK k57 W ok x [.string x.f0, .int .u64 x.f1, .int .u64 x.f2, .slice A3 x.f3.length c3, .int .u64 x.f4, .int .u64 x.f5, .int .u64 x.f6] := fun W2 hW => k57_mk W2 x l3 (g3 W2 hW)
def rd_T57 (xs : List S57) (i : Int) : S57 := xs.getD i.toNat z57
theorem at_T57 {w : World} {A : Option Addr} {n : Nat} {xs : List S57} (h : Kd.C k57 w A n xs) (i : Int) (h0 : 0 ≤ i) (h1 : i < n) : ∃ ad A3 c3, A = some ad ∧ w.cell? (ad.add (i.toNat * 7)) = some (.string (rd_T57 xs i).f0) ∧ w.cell? ⟨(ad.add (i.toNat * 7)).block, (ad.add (i.toNat * 7)).off + 1, none⟩ = some (.int .u64 (rd_T57 xs i).f1) ∧ w.cell? ⟨(ad.add (i.toNat * 7)).block, (ad.add (i.toNat * 7)).off + 2, none⟩ = some (.int .u64 (rd_T57 xs i).f2) ∧ w.cell? ⟨(ad.add (i.toNat * 7)).block, (ad.add (i.toNat * 7)).off + 3, none⟩ = some (.slice A3 (rd_T57 xs i).f3.length c3) ∧ w.cell? ⟨(ad.add (i.toNat * 7)).block, (ad.add (i.toNat * 7)).off + 4, none⟩ = some (.int .u64 (rd_T57 xs i).f4) ∧ w.cell? ⟨(ad.add (i.toNat * 7)).block, (ad.add (i.toNat * 7)).off + 5, none⟩ = some (.int .u64 (rd_T57 xs i).f5) ∧ w.cell? ⟨(ad.add (i.toNat * 7)).block, (ad.add (i.toNat * 7)).off + 6, none⟩ = some (.int .u64 (rd_T57 xs i).f6) ∧ (rd_T57 xs i).f3.length ≤ c3 ∧ (Kd.int .u64).C w A3 (rd_T57 xs i).f3.length (rd_T57 xs i).f3 := by
  obtain ⟨ad, c, e, _, hK, hc0⟩ := Kd.C_get h z57 i h0 h1
  have hc : ∀ j u, c[j]? = some u → w.cell? (ad.add (i.toNat * 7 + j)) = some u := hc0
  obtain ⟨A3, c3, rfl, l3, g3⟩ := k57_open hK
  exact ⟨ad, A3, c3, e, hc 0 _ rfl, by rw [← add_field _ _ 1 (by omega)]; exact hc 1 _ rfl, by rw [← add_field _ _ 2 (by omega)]; exact hc 2 _ rfl, by rw [← add_field _ _ 3 (by omega)]; exact hc 3 _ rfl, by rw [← add_field _ _ 4 (by omega)]; exact hc 4 _ rfl, by rw [← add_field _ _ 5 (by omega)]; exact hc 5 _ rfl, by rw [← add_field _ _ 6 (by omega)]; exact hc 6 _ rfl, l3, g3⟩

/-! #### struct type 25 -/
structure S25 where
  f0 : Int
  f1 : Int
  f2 : (List S55)
def z25 : S25 := ⟨(0 : Int), (0 : Int), ([] : List S55)⟩
def k25 : Kd S25 := Kd.iso (Kd.pair (Kd.int .u64) (Kd.pair (Kd.int .u64) (Kd.slice 55 k55))) (fun x : S25 => (x.f0, x.f1, x.f2))
def rd_T25 (xs : List S25) (i : Int) : S25 := xs.getD i.toNat z25
/-! #### struct type 75 -/
structure S75 where
  f0 : Int
  f1 : Int
  f2 : Int
def z75 : S75 := ⟨(0 : Int), (0 : Int), (0 : Int)⟩
def k75 : Kd S75 := Kd.iso (Kd.pair (Kd.int .i64) (Kd.pair (Kd.int .i64) (Kd.int .i64))) (fun x : S75 => (x.f0, x.f1, x.f2))
theorem k75_open {w : World} {x : S75} {cs : List Value} (h : k75.K w x cs) : cs = [.int .i64 x.f0, .int .i64 x.f1, .int .i64 x.f2] := by
  obtain ⟨_, _, rfl, rfl, ⟨_, _, rfl, rfl, rfl⟩⟩ := h
  exact rfl
def rd_T75 (xs : List S75) (i : Int) : S75 := xs.getD i.toNat z75
theorem at_T75 {w : World} {A : Option Addr} {n : Nat} {xs : List S75} (h : Kd.C k75 w A n xs) (i : Int) (h0 : 0 ≤ i) (h1 : i < n) : ∃ ad , A = some ad ∧ w.cell? (ad.add (i.toNat * 3)) = some (.int .i64 (rd_T75 xs i).f0) ∧ w.cell? ⟨(ad.add (i.toNat * 3)).block, (ad.add (i.toNat * 3)).off + 1, none⟩ = some (.int .i64 (rd_T75 xs i).f1) ∧ w.cell? ⟨(ad.add (i.toNat * 3)).block, (ad.add (i.toNat * 3)).off + 2, none⟩ = some (.int .i64 (rd_T75 xs i).f2) := by
  obtain ⟨ad, c, e, _, hK, hc0⟩ := Kd.C_get h z75 i h0 h1
  have hc : ∀ j u, c[j]? = some u → w.cell? (ad.add (i.toNat * 3 + j)) = some u := hc0
  obtain rfl := k75_open hK
  exact ⟨ad, e, hc 0 _ rfl, by rw [← add_field _ _ 1 (by omega)]; exact hc 1 _ rfl, by rw [← add_field _ _ 2 (by omega)]; exact hc 2 _ rfl⟩

abbrev Tt : Bool := true
abbrev Ff : Bool := false
theorem pp_ {P : Program} {ops : Array Oper} {Q : Exit → Act → World → Prop} {md : Region.Mode} {S : World → Prop} {ds : List Nat} {T : Bool × List (List Nat × List Nat)} {oi : Oper} {v : Value} {fuel : Nat} {l l' : Array Bool} {a a' : Act} {w : World} (i : Nat) (N : Option Tmp) (hT : rtab md ops = T)
    (h : wpAnyLast P md ops Q S ds fuel l' a' w) (hl : l.setIfInBounds i true = l' := by simp only [List.setIfInBounds_toArray, List.set_cons_zero, List.set_cons_succ]; rfl) (hi : ops[i]? = some oi := by rfl) (hN : oi.dst = N := by rfl) (hc : anyT T l.toList l'.toList i = true := by kernel_rfl) (hq : ∀ c a w, Q (.panic c) (a.put oi.dst v) w → Q (.panic c) a w := by exact fun _ _ _ h => h)
    (hw : Region.wanted oi (yielded ops a.tmps) = true := by rfl) (hy : ∀ w, (execOp a.eval oi).run P w = .ok (.value v) w := by intro w'; go_simp; with_reducible rfl) (ha : a.put N v = a' := by simp only [Act.put, List.setIfInBounds_toArray, List.set_cons_zero, List.set_cons_succ, i64_w, i32_w]; rfl) : wpAnyLast P md ops Q S ds (fuel + 1) l a w :=
  pure_ l' hi hN (any_of hT hc) hq (Or.inl ⟨hw, hy⟩) ha h
theorem pu_ {P : Program} {ops : Array Oper} {Q : Exit → Act → World → Prop} {md : Region.Mode} {S : World → Prop} {ds : List Nat} {T : Bool × List (List Nat × List Nat)} {oi : Oper} {fuel : Nat} {l l' : Array Bool} {a a' : Act} {w : World} (i : Nat) (N : Option Tmp) (hT : rtab md ops = T)
    (h : wpAnyLast P md ops Q S ds fuel l' a' w) (hl : l.setIfInBounds i true = l' := by simp only [List.setIfInBounds_toArray, List.set_cons_zero, List.set_cons_succ]; rfl) (hi : ops[i]? = some oi := by rfl) (hN : oi.dst = N := by rfl) (hc : anyT T l.toList l'.toList i = true := by kernel_rfl) (hq : ∀ c a w, Q (.panic c) (a.put oi.dst undef) w → Q (.panic c) a w := by exact fun _ _ _ h => h)
    (hw : Region.wanted oi (yielded ops a.tmps) = false := by rfl) (ha : a.put N undef = a' := by simp only [Act.put, List.setIfInBounds_toArray, List.set_cons_zero, List.set_cons_succ, i64_w, i32_w]; rfl) : wpAnyLast P md ops Q S ds (fuel + 1) l a w :=
  pure_ l' hi hN (any_of hT hc) hq (Or.inr ⟨hw, rfl⟩) ha h
theorem na_ {P : Program} {ops : Array Oper} {Q : Exit → Act → World → Prop} {md : Region.Mode} {S : World → Prop} {ds : List Nat} {fuel : Nat} {l : Array Bool} {a a' : Act} {w : World} {v : Value} (n : Nat) (h : wpAnyLast P md ops Q S ds fuel l a' w) (ha : a.put (some n) v = a' := by simp only [Act.put, List.setIfInBounds_toArray, List.set_cons_zero, List.set_cons_succ, i64_w, i32_w]; rfl) : wpAnyLast P md ops Q S ds fuel l (a.put (some n) v) w := norm_ ha h
theorem nb_ {P : Program} {ops : Array Oper} {Q : Exit → Act → World → Prop} {md : Region.Mode} {S : World → Prop} {ds : List Nat} {fuel : Nat} {l : Array Bool} {a a' : Act} {w : World} (h : wpAnyLast P md ops Q S ds fuel l a' w) (ha : a = a' := by simp only [putAll, Act.put, List.setIfInBounds_toArray, List.set_cons_zero, List.set_cons_succ]; rfl) : wpAnyLast P md ops Q S ds fuel l a w := norm_ ha h
end Go.Proofs.YtmbigoeldobaiaaDoor.XMrk
end
section
/- What the functions of the translation answer, each as a plain Lean function, and that the code comes to it; for a law: its row. Conditions: none but those that each theorem names. Written by a program of this session (wip/xp). -/
namespace Go.Proofs.YtmbigoeldobaiaaDoor.XMrk
open Go.RowKit Go.Proofs.YtmbigoeldobaiaaDoorW.PrintWords Go.Proofs.YtmbigoeldobaiaaDoorW.PrintLast Go.Proofs.YtmbigoeldobaiaaDoorW.PrintMore
attribute [local go_sem] max2_int min2_int max_two min_two max_three min_three max_four min_four   -- for this text's walks alone
set_option linter.unusedVariables false
set_option linter.unusedSimpArgs false

/-! ### postroomlaw11_pick: function 19 -/
def postroomlaw11_pick.f (a0 : Int) (a1 : Int) : Option (Int) := if a0 < 0 then (if a1 = 0 then (none) else (some (Int.tmod (wrap64 (-(wrap64 (a0 + 1)))) a1))) else (if a1 = 0 then (none) else (some (Int.tmod a0 a1)))
set_option maxHeartbeats 8000000 in
set_option maxRecDepth 100000 in
theorem postroomlaw11_pick.calls (a0 : Int) (a1 : Int) (r : Int) (w : World) (h : postroomlaw11_pick.f a0 a1 = some r) :
  Calls Tryd.prog 19 #[.int .i64 a0, .int .i64 a1] w fun e w' => e = .returned (.int .i64 r) ∧ Drawn0 w w' := by
 have H : (if a0 < 0 then (if a1 = 0 then (none) else (some (Int.tmod (wrap64 (-(wrap64 (a0 + 1)))) a1))) else (if a1 = 0 then (none) else (some (Int.tmod a0 a1)))) = some r := h
 clear h
 by_cases c3 : a0 < 0
 ·rw [if_pos c3] at H
  have bc : decide (a0 < 0) = true := decide_eq_true c3
  clear c3
  by_cases c4 : a1 = 0
  ·rw [if_pos c4] at H
   exact absurd H (by simp)
  rw [if_neg c4] at H
  have bg : (a1 == 0) = false := beq_eq_false_iff_ne.mpr c4
  have bf : (a1 != 0) = true := bne_iff_ne.mpr c4
  obtain rfl := Option.some.inj H
  go_enter Tryd.func19, Tryd.ntmps19
  go_wp2
  go_ret
  exact ⟨by first | rfl | (simp; done) | (simp [*]; done), by repeat (first | exact Drawn0.refl _ | apply Drawn0.step)⟩
 rw [if_neg c3] at H
 have bc : decide (a0 < 0) = false := decide_eq_false c3
 clear c3
 by_cases c5 : a1 = 0
 ·rw [if_pos c5] at H
  exact absurd H (by simp)
 rw [if_neg c5] at H
 have be : (a1 == 0) = false := beq_eq_false_iff_ne.mpr c5
 have bd : (a1 != 0) = true := bne_iff_ne.mpr c5
 obtain rfl := Option.some.inj H
 go_enter Tryd.func19, Tryd.ntmps19
 go_wp2
 go_ret
 exact ⟨by first | rfl | (simp; done) | (simp [*]; done), by repeat (first | exact Drawn0.refl _ | apply Drawn0.step)⟩

/-! ### cmp_isNaN_uint64: function 70 -/
def cmp_isNaN_uint64.f (a0 : Int) : Option (Bool) := some (a0 != a0)
set_option maxHeartbeats 8000000 in
set_option maxRecDepth 100000 in
theorem cmp_isNaN_uint64.calls (a0 : Int) (r : Bool) (w : World) (h : cmp_isNaN_uint64.f a0 = some r) :
  Calls Tryd.prog 70 #[.int .u64 a0] w fun e w' => e = .returned (.bool r) ∧ Drawn0 w w' := by
 have H : (some (a0 != a0)) = some r := h
 clear h
 obtain rfl := Option.some.inj H
 go_enter Tryd.func70, Tryd.ntmps70
 go_wp2
 go_ret
 exact ⟨by first | rfl | (simp; done) | (simp [*]; done), by repeat (first | exact Drawn0.refl _ | apply Drawn0.step)⟩

/-! ### cmp_Less_uint64: function 57 -/
def cmp_Less_uint64.f (a0 : Int) (a1 : Int) : Option (Bool) := (cmp_isNaN_uint64.f a0).bind fun bb => (if bb = true then ((cmp_isNaN_uint64.f a1).bind fun ba => (if ba = true then (some (decide (a0 < a1))) else (some true))) else (some (decide (a0 < a1))))
set_option maxHeartbeats 8000000 in
set_option maxRecDepth 100000 in
theorem cmp_Less_uint64.calls (a0 : Int) (a1 : Int) (r : Bool) (w : World) (h : cmp_Less_uint64.f a0 a1 = some r) :
  Calls Tryd.prog 57 #[.int .u64 a0, .int .u64 a1] w fun e w' => e = .returned (.bool r) ∧ Drawn0 w w' := by
 have H : ((cmp_isNaN_uint64.f a0).bind fun bb => (if bb = true then ((cmp_isNaN_uint64.f a1).bind fun ba => (if ba = true then (some (decide (a0 < a1))) else (some true))) else (some (decide (a0 < a1))))) = some r := h
 clear h
 replace H := Option.bind_eq_some_iff.mp H
 obtain ⟨bb, A30, H⟩ := H
 replace H : (if bb = true then ((cmp_isNaN_uint64.f a1).bind fun ba => (if ba = true then (some (decide (a0 < a1))) else (some true))) else (some (decide (a0 < a1)))) = some r := H
 have A3 := Aside0.mk A30
 clear A30
 by_cases c4 : bb = true
 case neg =>
  replace c4 := Bool.eq_false_iff.mpr c4
  subst c4
  have H1 : (some (decide (a0 < a1))) = some r := by rw [if_neg (show ¬ (false = true) by decide)] at H; exact H
  clear H
  have H := H1
  clear H1
  obtain rfl := Option.some.inj H
  go_enter Tryd.func57, Tryd.ntmps57
  go_wp2_with (first | ((with_reducible refine gate_callee (f := 70) rfl ?_); refine goesL_ (some 6) rfl rfl Tryd.func70 (by kernel_rfl) rfl #[.int .u64 a0] rfl (by (try simp only [List.map_toArray, List.map_cons, List.map_nil]); first | done | rfl | (simp only [List.length_drop, List.length_take]; rfl)) ?_; (with_reducible refine (cmp_isNaN_uint64.calls a0 false _ A3.out).mono ?_); rintro e w' ⟨rfl, ⟨nd, rfl⟩⟩; refine ⟨_, rfl, ?_⟩))
  go_ret
  exact ⟨by first | rfl | (simp; done) | (simp [*]; done), by repeat (first | exact Drawn0.refl _ | apply Drawn0.step)⟩

 subst c4
 have H1 : ((cmp_isNaN_uint64.f a1).bind fun ba => (if ba = true then (some (decide (a0 < a1))) else (some true))) = some r := by rw [if_pos rfl] at H; exact H
 clear H
 have H := H1
 clear H1
 replace H := Option.bind_eq_some_iff.mp H
 obtain ⟨ba, A50, H⟩ := H
 replace H : (if ba = true then (some (decide (a0 < a1))) else (some true)) = some r := H
 have A5 := Aside0.mk A50
 clear A50
 by_cases c6 : ba = true
 ·subst c6
  have H1 : (some (decide (a0 < a1))) = some r := by rw [if_pos rfl] at H; exact H
  clear H
  have H := H1
  clear H1
  obtain rfl := Option.some.inj H
  go_enter Tryd.func57, Tryd.ntmps57
  go_wp2_with (first | ((with_reducible refine gate_callee (f := 70) rfl ?_); refine goesL_ (some 6) rfl rfl Tryd.func70 (by kernel_rfl) rfl #[.int .u64 a0] rfl (by (try simp only [List.map_toArray, List.map_cons, List.map_nil]); first | done | rfl | (simp only [List.length_drop, List.length_take]; rfl)) ?_; (with_reducible refine (cmp_isNaN_uint64.calls a0 true _ A3.out).mono ?_); rintro e w' ⟨rfl, ⟨nd, rfl⟩⟩; refine ⟨_, rfl, ?_⟩) | (go_at_call 70; (with_reducible refine (cmp_isNaN_uint64.calls a1 true _ A5.out).mono ?_); rintro e w' ⟨rfl, ⟨nd, rfl⟩⟩))
  go_ret
  exact ⟨by first | rfl | (simp; done) | (simp [*]; done), by repeat (first | exact Drawn0.refl _ | apply Drawn0.step)⟩
 replace c6 := Bool.eq_false_iff.mpr c6
 subst c6
 have H1 : (some true) = some r := by rw [if_neg (show ¬ (false = true) by decide)] at H; exact H
 clear H
 have H := H1
 clear H1
 obtain rfl := Option.some.inj H
 go_enter Tryd.func57, Tryd.ntmps57
 go_wp2_with (first | ((with_reducible refine gate_callee (f := 70) rfl ?_); refine goesL_ (some 6) rfl rfl Tryd.func70 (by kernel_rfl) rfl #[.int .u64 a0] rfl (by (try simp only [List.map_toArray, List.map_cons, List.map_nil]); first | done | rfl | (simp only [List.length_drop, List.length_take]; rfl)) ?_; (with_reducible refine (cmp_isNaN_uint64.calls a0 true _ A3.out).mono ?_); rintro e w' ⟨rfl, ⟨nd, rfl⟩⟩; refine ⟨_, rfl, ?_⟩) | (go_at_call 70; (with_reducible refine (cmp_isNaN_uint64.calls a1 false _ A5.out).mono ?_); rintro e w' ⟨rfl, ⟨nd, rfl⟩⟩))
 go_ret
 exact ⟨by first | rfl | (simp; done) | (simp [*]; done), by repeat (first | exact Drawn0.refl _ | apply Drawn0.step)⟩
/-! ### slices_isNaN_uint64: function 58 -/
def slices_isNaN_uint64.f (a0 : Int) : Option (Bool) := some (a0 != a0)
set_option maxHeartbeats 8000000 in
set_option maxRecDepth 100000 in
theorem slices_isNaN_uint64.calls (a0 : Int) (r : Bool) (w : World) (h : slices_isNaN_uint64.f a0 = some r) :
  Calls Tryd.prog 58 #[.int .u64 a0] w fun e w' => e = .returned (.bool r) ∧ Drawn0 w w' := by
 have H : (some (a0 != a0)) = some r := h
 clear h
 obtain rfl := Option.some.inj H
 go_enter Tryd.func58, Tryd.ntmps58
 go_wp2
 go_ret
 exact ⟨by first | rfl | (simp; done) | (simp [*]; done), by repeat (first | exact Drawn0.refl _ | apply Drawn0.step)⟩

end Go.Proofs.YtmbigoeldobaiaaDoor.XMrk
end
section
/- What the functions of the translation answer, each as a plain Lean function, and that the code comes to it; for a law: its row. Conditions: none but those that each theorem names. Written by a program of this session (wip/xp). -/
namespace Go.Proofs.YtmbigoeldobaiaaDoor.XMrk
open Go.RowKit Go.Proofs.YtmbigoeldobaiaaDoorW.PrintWords Go.Proofs.YtmbigoeldobaiaaDoorW.PrintLast Go.Proofs.YtmbigoeldobaiaaDoorW.PrintMore
attribute [local go_sem] max2_int min2_int max_two min_two max_three min_three max_four min_four   -- for this text's walks alone
theorem zx16_1 {p : Prop} (h : p := by first | (with_reducible assumption) | assumption) : p := h
theorem zx16_0 {p : Prop} (h : p := by repeat (first | (with_reducible first | exact HB.out | apply below_alloc | apply pw_below_drewN | apply below_drew1) | exact HB.out)) : p := h
set_option linter.unusedVariables false
set_option linter.unusedSimpArgs false

/-! ### slices_BinarySearch_uint64_uint64: function 52 -/
def slices_BinarySearch_uint64_uint64.l0 : Nat → List Int → Int → Int → Int → Int → Option (Int × Bool)
 | 0, _, _, _, _, _ => none
 | k + 1, x0, x1, x6, x7, x8 => if x7 < x8 then (if 0 ≤ (wrap64 ((IntKind.u64.wrap (wrap64 (x7 + x8))) / 2)) then (if (wrap64 ((IntKind.u64.wrap (wrap64 (x7 + x8))) / 2)) < (x0.length : Int) then ((cmp_Less_uint64.f (rd x0 (wrap64 ((IntKind.u64.wrap (wrap64 (x7 + x8))) / 2))) x1).bind fun bC => (if bC = true then (slices_BinarySearch_uint64_uint64.l0 k x0 x1 x6 (wrap64 ((wrap64 ((IntKind.u64.wrap (wrap64 (x7 + x8))) / 2)) + 1)) x8) else (slices_BinarySearch_uint64_uint64.l0 k x0 x1 x6 x7 (wrap64 ((IntKind.u64.wrap (wrap64 (x7 + x8))) / 2))))) else (none)) else (none)) else (if x7 < x6 then (if 0 ≤ x7 then (if x7 < (x0.length : Int) then (if (rd x0 x7) = x1 then (some (x7, true)) else ((slices_isNaN_uint64.f (rd x0 x7)).bind fun bH => (if bH = true then ((slices_isNaN_uint64.f x1).bind fun bp => (some (x7, bp))) else (some (x7, false))))) else (none)) else (none)) else (some (x7, false)))
def slices_BinarySearch_uint64_uint64.f (k : Nat) (l0 : List Int) (a1 : Int) : Option (Int × Bool) := slices_BinarySearch_uint64_uint64.l0 k l0 a1 (l0.length : Int) 0 (l0.length : Int)
set_option maxHeartbeats 8000000 in
set_option maxRecDepth 100000 in
theorem slices_BinarySearch_uint64_uint64.calls (k : Nat) (A0 : Option Addr) (c0 : Nat) (l0 : List Int) (a1 : Int) (r1 : Int) (r2 : Bool) (w : World) (hr0 : Kd.C (Kd.int .u64) w A0 l0.length l0) (hc0 : l0.length ≤ c0) (h : slices_BinarySearch_uint64_uint64.f k l0 a1 = some (r1, r2)) :
  Calls Tryd.prog 52 #[.slice A0 l0.length c0, .int .u64 a1] w fun e w' => e = .returned (.tuple #[.int .i64 r1, .bool r2]) ∧ Drawn0 w w' := by
 have HR0 := Aside0.mk hr0
 have HC0 := Aside0.mk hc0
 clear hr0 hc0
 have H : (slices_BinarySearch_uint64_uint64.l0 k l0 a1 (l0.length : Int) 0 (l0.length : Int)) = some (r1, r2) := h
 clear h
 have H' := Aside0.mk H
 clear H
 go_enter Tryd.func52, Tryd.ntmps52
 go_wp2
 go_loopg [7, 8] k (fun kq v7 v8 w' => ∃ (bb : Int) (bf : Int), v7 = .int .i64 bb ∧ v8 = .int .i64 bf ∧ Aside0 (slices_BinarySearch_uint64_uint64.l0 kq l0 a1 (l0.length : Int) bb bf = some (r1, r2)) ∧ Aside0 (kq ≤ k) ∧ Drawn0 w w')
 case atStart => exact ⟨(0), ((l0.length : Int)), (by first | rfl | (simp; done) | (simp [*]; done)), (by first | rfl | (simp; done) | (simp [*]; done)), H', ⟨Nat.le_refl _⟩, by repeat (first | exact Drawn0.refl _ | apply Drawn0.step)⟩
 case round =>
  clear H'
  (try clear p2)
  obtain ⟨bb, bf, rfl, rfl, HA, HK1, ⟨m1, rfl⟩⟩ := hrel
  cases gk with
  | zero => exact absurd HA.out (by simp [slices_BinarySearch_uint64_uint64.l0])
  | succ k1 => ?_
  have H := HA.out
  clear HA
  simp only [slices_BinarySearch_uint64_uint64.l0] at H
  by_cases c3 : bb < bf
  ·rw [if_pos c3] at H
   have dK : decide (bb < bf) = true := decide_eq_true c3
   clear c3
   obtain ⟨ji4, bz⟩ : ∃ j_ : Int, (wrap64 ((IntKind.u64.wrap (wrap64 (bb + bf))) / 2)) = j_ := ⟨_, rfl⟩
   replace H : (if 0 ≤ (ji4) then (if (ji4) < (l0.length : Int) then ((cmp_Less_uint64.f (rd l0 (ji4)) a1).bind fun bC => (if bC = true then (slices_BinarySearch_uint64_uint64.l0 k1 l0 a1 (l0.length : Int) (wrap64 ((ji4) + 1)) bf) else (slices_BinarySearch_uint64_uint64.l0 k1 l0 a1 (l0.length : Int) bb ji4))) else (none)) else (none)) = some (r1, r2) := by first | (rw [bz] at H; exact H) | (simp only [bz] at H ⊢; exact H)
   have hji4w : (IntKind.i64.wrap ((IntKind.u64.wrap (wrap64 (bb + bf))) / 2)) = ji4 := (i64_w _).trans bz
   by_cases c5 : 0 ≤ (ji4)
   case neg =>
    rw [if_neg c5] at H
    exact absurd H (by simp)
   rw [if_pos c5] at H
   have dP : decide (0 ≤ (ji4)) = true := decide_eq_true c5
   clear c5
   by_cases c6 : (ji4) < (l0.length : Int)
   case neg =>
    rw [if_neg c6] at H
    exact absurd H (by simp)
   rw [if_pos c6] at H
   have dO : decide ((ji4) < (l0.length : Int)) = true := decide_eq_true c6
   clear c6
   replace H := Option.bind_eq_some_iff.mp H
   obtain ⟨bC, A70, H⟩ := H
   replace H : (if bC = true then (slices_BinarySearch_uint64_uint64.l0 k1 l0 a1 (l0.length : Int) (wrap64 ((ji4) + 1)) bf) else (slices_BinarySearch_uint64_uint64.l0 k1 l0 a1 (l0.length : Int) bb ji4)) = some (r1, r2) := H
   have A7 := Aside0.mk A70
   clear A70
   by_cases c8 : bC = true
   ·subst c8
    have H1 : (slices_BinarySearch_uint64_uint64.l0 k1 l0 a1 (l0.length : Int) (wrap64 ((ji4) + 1)) bf) = some (r1, r2) := by rw [if_pos rfl] at H; exact H
    clear H
    have H := H1
    clear H1
    have H' := Aside0.mk H
    clear H
    have bx : 0 ≤ ((ji4) : Int) := of_decide_eq_true zx16_1
    have bu : (ji4) < (l0.length : Int) := of_decide_eq_true zx16_1
    obtain ⟨bS, bO, bJ⟩ := Kd.at_int HR0.out (ji4) bx bu
    cases bO
    replace bx := eq_true bx
    replace bu := eq_true bu
    go_wp2_with (first | ((with_reducible refine gate_callee (f := 57) rfl ?_); refine goesL_ (some 27) rfl rfl Tryd.func57 (by kernel_rfl) rfl #[.int .u64 (rd l0 (ji4)), .int .u64 a1] rfl (by (try simp only [List.map_toArray, List.map_cons, List.map_nil]); first | done | (simp only [bz]; rfl) | rfl | (simp only [List.length_drop, List.length_take]; rfl)) ?_; (with_reducible refine (cmp_Less_uint64.calls (rd l0 (ji4)) a1 true _ A7.out).mono ?_); rintro e w' ⟨rfl, ⟨nd, rfl⟩⟩; refine ⟨_, rfl, ?_⟩))
    go_roundg k1
    case measure => have := HK1.out; omega
    case rel => exact ⟨(wrap64 ((ji4) + 1)), (bf), (by first | rfl | (simp; done) | (simp only [← bz] <;> (first | rfl | simp)) | (simp [*]; done)), (by first | rfl | (simp; done) | (simp [*]; done)), H', ⟨by have := HK1.out; omega⟩, by repeat (first | exact Drawn0.refl _ | apply Drawn0.step)⟩
   replace c8 := Bool.eq_false_iff.mpr c8
   subst c8
   have H1 : (slices_BinarySearch_uint64_uint64.l0 k1 l0 a1 (l0.length : Int) bb ji4) = some (r1, r2) := by rw [if_neg (show ¬ (false = true) by decide)] at H; exact H
   clear H
   have H := H1
   clear H1
   have H' := Aside0.mk H
   clear H
   have bx : 0 ≤ ((ji4) : Int) := of_decide_eq_true zx16_1
   have bu : (ji4) < (l0.length : Int) := of_decide_eq_true zx16_1
   obtain ⟨bS, bO, bJ⟩ := Kd.at_int HR0.out (ji4) bx bu
   cases bO
   replace bx := eq_true bx
   replace bu := eq_true bu
   go_wp2_with (first | ((with_reducible refine gate_callee (f := 57) rfl ?_); refine goesL_ (some 27) rfl rfl Tryd.func57 (by kernel_rfl) rfl #[.int .u64 (rd l0 (ji4)), .int .u64 a1] rfl (by (try simp only [List.map_toArray, List.map_cons, List.map_nil]); first | done | (simp only [bz]; rfl) | rfl | (simp only [List.length_drop, List.length_take]; rfl)) ?_; (with_reducible refine (cmp_Less_uint64.calls (rd l0 (ji4)) a1 false _ A7.out).mono ?_); rintro e w' ⟨rfl, ⟨nd, rfl⟩⟩; refine ⟨_, rfl, ?_⟩))
   go_roundg k1
   case measure => have := HK1.out; omega
   case rel => exact ⟨(bb), (ji4), (by first | rfl | (simp; done) | (simp [*]; done)), (by first | rfl | (simp; done) | (simp only [← bz] <;> (first | rfl | simp)) | (simp [*]; done)), H', ⟨by have := HK1.out; omega⟩, by repeat (first | exact Drawn0.refl _ | apply Drawn0.step)⟩
  rw [if_neg c3] at H
  have dK : decide (bb < bf) = false := decide_eq_false c3
  clear c3
  by_cases c9 : bb < (l0.length : Int)
  case neg =>
   rw [if_neg c9] at H
   have dH : decide (bb < (l0.length : Int)) = false := decide_eq_false c9
   clear c9
   simp only [Option.some.injEq, Prod.mk.injEq] at H
   obtain ⟨rfl, rfl⟩ := H
   go_wp2
   go_ret2
   exact ⟨by first | rfl | (simp; done) | (simp [*]; done), by repeat (first | exact Drawn0.refl _ | apply Drawn0.step)⟩

  rw [if_pos c9] at H
  have dH : decide (bb < (l0.length : Int)) = true := decide_eq_true c9
  clear c9
  by_cases c10 : 0 ≤ bb
  case neg =>
   rw [if_neg c10] at H
   exact absurd H (by simp)
  rw [if_pos c10] at H
  have dM : decide (0 ≤ bb) = true := decide_eq_true c10
  clear c10
  by_cases c11 : bb < (l0.length : Int)
  case neg =>
   rw [if_neg c11] at H
   exact absurd H (by simp)
  rw [if_pos c11] at H
  have dL : decide (bb < (l0.length : Int)) = true := decide_eq_true c11
  clear c11
  by_cases c12 : (rd l0 bb) = a1
  ·rw [if_pos c12] at H
   have bR : ((rd l0 bb) == a1) = true := beq_iff_eq.mpr c12
   have bQ : ((rd l0 bb) != a1) = false := bne_eq_false_iff_eq.mpr c12
   clear c12
   simp only [Option.some.injEq, Prod.mk.injEq] at H
   obtain ⟨rfl, rfl⟩ := H
   have bh : 0 ≤ (bb : Int) := of_decide_eq_true zx16_1
   have bg : bb < (l0.length : Int) := of_decide_eq_true zx16_1
   obtain ⟨bB, bD, bA⟩ := Kd.at_int HR0.out bb bh bg
   cases bD
   replace bh := eq_true bh
   replace bg := eq_true bg
   go_wp2
   go_ret2
   exact ⟨by first | rfl | (simp; done) | (simp [*]; done), by repeat (first | exact Drawn0.refl _ | apply Drawn0.step)⟩
  rw [if_neg c12] at H
  have bR : ((rd l0 bb) == a1) = false := beq_eq_false_iff_ne.mpr c12
  have bQ : ((rd l0 bb) != a1) = true := bne_iff_ne.mpr c12
  replace H := Option.bind_eq_some_iff.mp H
  obtain ⟨bH, bX, H⟩ := H
  replace H : (if bH = true then ((slices_isNaN_uint64.f a1).bind fun bp => (some (bb, bp))) else (some (bb, false))) = some (r1, r2) := H
  have A13 := Aside0.mk bX
  clear bX
  by_cases c14 : bH = true
  case neg =>
   replace c14 := Bool.eq_false_iff.mpr c14
   subst c14
   have H1 : (some (bb, false)) = some (r1, r2) := by rw [if_neg (show ¬ (false = true) by decide)] at H; exact H
   clear H
   have H := H1
   clear H1
   simp only [Option.some.injEq, Prod.mk.injEq] at H
   obtain ⟨rfl, rfl⟩ := H
   have bh : 0 ≤ (bb : Int) := of_decide_eq_true zx16_1
   have bg : bb < (l0.length : Int) := of_decide_eq_true zx16_1
   obtain ⟨bB, bD, bA⟩ := Kd.at_int HR0.out bb bh bg
   cases bD
   replace bh := eq_true bh
   replace bg := eq_true bg
   have bw : 0 ≤ (bb : Int) := of_decide_eq_true zx16_1
   have br : bb < (l0.length : Int) := of_decide_eq_true zx16_1
   obtain ⟨bG, bN, bI⟩ := Kd.at_int HR0.out bb bw br
   obtain rfl : bB = bG := (by injection bN)
   replace bw := eq_true bw
   replace br := eq_true br
   go_wp2_with (first | (go_at_call 58; (with_reducible refine (slices_isNaN_uint64.calls (rd l0 bb) false _ A13.out).mono ?_); rintro e w' ⟨rfl, ⟨nd, rfl⟩⟩))
   go_ret2
   exact ⟨by first | rfl | (simp; done) | (simp [*]; done), by repeat (first | exact Drawn0.refl _ | apply Drawn0.step)⟩
  subst c14
  have H1 : ((slices_isNaN_uint64.f a1).bind fun bp => (some (bb, bp))) = some (r1, r2) := by rw [if_pos rfl] at H; exact H
  clear H
  have H := H1
  clear H1
  replace H := Option.bind_eq_some_iff.mp H
  obtain ⟨bp, bW, H⟩ := H
  replace H : (some (bb, bp)) = some (r1, r2) := H
  have A15 := Aside0.mk bW
  clear bW
  simp only [Option.some.injEq, Prod.mk.injEq] at H
  obtain ⟨rfl, rfl⟩ := H
  have bh : 0 ≤ (bb : Int) := of_decide_eq_true zx16_1
  have bg : bb < (l0.length : Int) := of_decide_eq_true zx16_1
  obtain ⟨bB, bD, bA⟩ := Kd.at_int HR0.out bb bh bg
  cases bD
  replace bh := eq_true bh
  replace bg := eq_true bg
  have bw : 0 ≤ (bb : Int) := of_decide_eq_true zx16_1
  have br : bb < (l0.length : Int) := of_decide_eq_true zx16_1
  obtain ⟨bG, bN, bI⟩ := Kd.at_int HR0.out bb bw br
  obtain rfl : bB = bG := (by injection bN)
  replace bw := eq_true bw
  replace br := eq_true br
  go_wp2_with (first | (go_at_call 58; (with_reducible refine (slices_isNaN_uint64.calls (rd l0 bb) true _ A13.out).mono ?_); rintro e w' ⟨rfl, ⟨nd, rfl⟩⟩) | (go_at_call 58; (with_reducible refine (slices_isNaN_uint64.calls a1 bp _ A15.out).mono ?_); rintro e w' ⟨rfl, ⟨nd, rfl⟩⟩))
  go_ret2
  exact ⟨by first | rfl | (simp; done) | (simp [*]; done), by repeat (first | exact Drawn0.refl _ | apply Drawn0.step)⟩
/-! ### ledger_Dest_waits: function 38 -/
def ledger_Dest_waits.f (k : Nat) (bn : ByteArray) (bm : Int) (be : Int) (bd : List Int) (bl : Int) (bk : Int) (bj : Int) (a1 : Int) (a2 : Int) : Option (Bool) := if a1 < be then (some false) else (if a1 ≥ a2 then (some false) else ((slices_BinarySearch_uint64_uint64.f k bd a1).bind fun bE => (some (!bE.2))))
set_option maxHeartbeats 8000000 in
set_option maxRecDepth 100000 in
theorem ledger_Dest_waits.calls (k : Nat) (bn : ByteArray) (bm : Int) (be : Int) (bo : Option Addr) (bi : Nat) (bd : List Int) (bl : Int) (bk : Int) (bj : Int) (a1 : Int) (a2 : Int) (r : Bool) (w : World) (bK : Kd.C (Kd.int .u64) w bo bd.length bd) (bL : bd.length ≤ bi) (h : ledger_Dest_waits.f k bn bm be bd bl bk bj a1 a2 = some r) :
  Calls Tryd.prog 38 #[.agg #[.string bn, .int .u64 bm, .int .u64 be, .slice bo bd.length bi, .int .u64 bl, .int .u64 bk, .int .u64 bj], .int .u64 a1, .int .u64 a2] w fun e w' => e = .returned (.bool r) ∧ Below w.heap.size w w' := by
 have dN := Tryd.underlying55
 have bU := Aside0.mk bK
 have bV := Aside0.mk bL
 clear bK bL
 have HB := Aside0.mk (Below.refl w.heap.size w)
 have H : (if a1 < be then (some false) else (if a1 ≥ a2 then (some false) else ((slices_BinarySearch_uint64_uint64.f k bd a1).bind fun bE => (some (!bE.2))))) = some r := h
 clear h
 by_cases c4 : a1 < be
 ·rw [if_pos c4] at H
  have dJ : decide (a1 < be) = true := decide_eq_true c4
  clear c4
  obtain rfl := Option.some.inj H
  go_enter Tryd.func38, Tryd.ntmps38
  go_wp2_with (first | ((with_reducible refine gate_dst (N := 3) rfl ?_); refine box_event ?hg (N := 3) ?hd (cs := #[.string bn, .int .u64 bm, .int .u64 be, .slice bo bd.length bi, .int .u64 bl, .int .u64 bk, .int .u64 bj]) (t := 55) ?hr ?_; (case hd => rfl); (case hg => rfl); (case hr => first | (go_simp; done) | (go_simp; rfl)); intro bc hg w5 hbox hb; have ba := Aside0.mk (hbox); have bM := Aside0.mk ((by rw [hg]; exact (below_size zx16_0) : w.heap.size ≤ bc)); have bq := Aside0.mk ((by rw [hg]; exact (below_size zx16_0) : w.heap.size ≤ bc)); replace HB := Aside0.mk (below_step zx16_0 hb); clear hb hbox hg; have dG : w5.cell? ⟨bc, 0, none⟩ = some (.string bn) := (blk_cell ba.out 0).trans rfl; have dF : w5.cell? ⟨bc, 1, none⟩ = some (.int .u64 bm) := (blk_cell ba.out 1).trans rfl; have dE : w5.cell? ⟨bc, 2, none⟩ = some (.int .u64 be) := (blk_cell ba.out 2).trans rfl; have dD : w5.cell? ⟨bc, 3, none⟩ = some (.slice bo bd.length bi) := (blk_cell ba.out 3).trans rfl; have dC : w5.cell? ⟨bc, 4, none⟩ = some (.int .u64 bl) := (blk_cell ba.out 4).trans rfl; have dB : w5.cell? ⟨bc, 5, none⟩ = some (.int .u64 bk) := (blk_cell ba.out 5).trans rfl; have dA : w5.cell? ⟨bc, 6, none⟩ = some (.int .u64 bj) := (blk_cell ba.out 6).trans rfl; have ds := blk_frozen ba.out 0; have dr := blk_frozen ba.out 1; have dq := blk_frozen ba.out 2; have dp := blk_frozen ba.out 3; have dn := blk_frozen ba.out 4; have dm := blk_frozen ba.out 5; have dl := blk_frozen ba.out 6))
  go_ret
  exact ⟨by first | rfl | (simp [errW_none, errW_some] <;> rfl) | (simp [*, errW_none, errW_some] <;> rfl), by repeat (first | (with_reducible first | exact HB.out | apply below_alloc | apply pw_below_drewN | apply below_drew1 | refine below_set ?_ bq.out) | exact HB.out)⟩
 rw [if_neg c4] at H
 have dJ : decide (a1 < be) = false := decide_eq_false c4
 clear c4
 by_cases c7 : a1 ≥ a2
 ·rw [if_pos c7] at H
  have dI : decide (a2 ≤ a1) = true := decide_eq_true c7
  clear c7
  obtain rfl := Option.some.inj H
  go_enter Tryd.func38, Tryd.ntmps38
  go_wp2_with (first | ((with_reducible refine gate_dst (N := 3) rfl ?_); refine box_event ?hg (N := 3) ?hd (cs := #[.string bn, .int .u64 bm, .int .u64 be, .slice bo bd.length bi, .int .u64 bl, .int .u64 bk, .int .u64 bj]) (t := 55) ?hr ?_; (case hd => rfl); (case hg => rfl); (case hr => first | (go_simp; done) | (go_simp; rfl)); intro bc hg w8 hbox hb; have ba := Aside0.mk (hbox); have bM := Aside0.mk ((by rw [hg]; exact (below_size zx16_0) : w.heap.size ≤ bc)); have bq := Aside0.mk ((by rw [hg]; exact (below_size zx16_0) : w.heap.size ≤ bc)); replace HB := Aside0.mk (below_step zx16_0 hb); clear hb hbox hg; have dz : w8.cell? ⟨bc, 0, none⟩ = some (.string bn) := (blk_cell ba.out 0).trans rfl; have dy : w8.cell? ⟨bc, 1, none⟩ = some (.int .u64 bm) := (blk_cell ba.out 1).trans rfl; have dx : w8.cell? ⟨bc, 2, none⟩ = some (.int .u64 be) := (blk_cell ba.out 2).trans rfl; have dw : w8.cell? ⟨bc, 3, none⟩ = some (.slice bo bd.length bi) := (blk_cell ba.out 3).trans rfl; have dv : w8.cell? ⟨bc, 4, none⟩ = some (.int .u64 bl) := (blk_cell ba.out 4).trans rfl; have du : w8.cell? ⟨bc, 5, none⟩ = some (.int .u64 bk) := (blk_cell ba.out 5).trans rfl; have dt : w8.cell? ⟨bc, 6, none⟩ = some (.int .u64 bj) := (blk_cell ba.out 6).trans rfl; have dk := blk_frozen ba.out 0; have dj := blk_frozen ba.out 1; have di := blk_frozen ba.out 2; have dh := blk_frozen ba.out 3; have dg := blk_frozen ba.out 4; have df := blk_frozen ba.out 5; have de := blk_frozen ba.out 6))
  go_ret
  exact ⟨by first | rfl | (simp [errW_none, errW_some] <;> rfl) | (simp [*, errW_none, errW_some] <;> rfl), by repeat (first | (with_reducible first | exact HB.out | apply below_alloc | apply pw_below_drewN | apply below_drew1 | refine below_set ?_ bq.out) | exact HB.out)⟩
 rw [if_neg c7] at H
 have dI : decide (a2 ≤ a1) = false := decide_eq_false c7
 clear c7
 replace H := Option.bind_eq_some_iff.mp H
 obtain ⟨⟨dd, bP⟩, bY, H⟩ := H
 replace H : (some (!bP)) = some r := H
 have A10 := Aside0.mk bY
 clear bY
 obtain rfl := Option.some.inj H
 go_enter Tryd.func38, Tryd.ntmps38
 go_wp2_with (first | ((with_reducible refine gate_dst (N := 3) rfl ?_); refine box_event ?hg (N := 3) ?hd (cs := #[.string bn, .int .u64 bm, .int .u64 be, .slice bo bd.length bi, .int .u64 bl, .int .u64 bk, .int .u64 bj]) (t := 55) ?hr ?_; (case hd => rfl); (case hg => rfl); (case hr => first | (go_simp; done) | (go_simp; rfl)); intro bc hg w11 hbox hb; have ba := Aside0.mk (hbox); have bM := Aside0.mk ((by rw [hg]; exact (below_size zx16_0) : w.heap.size ≤ bc)); have bq := Aside0.mk ((by rw [hg]; exact (below_size zx16_0) : w.heap.size ≤ bc)); replace HB := Aside0.mk (below_step zx16_0 hb); clear hb hbox hg; have dc : w11.cell? ⟨bc, 0, none⟩ = some (.string bn) := (blk_cell ba.out 0).trans rfl; have db : w11.cell? ⟨bc, 1, none⟩ = some (.int .u64 bm) := (blk_cell ba.out 1).trans rfl; have da : w11.cell? ⟨bc, 2, none⟩ = some (.int .u64 be) := (blk_cell ba.out 2).trans rfl; have b9 : w11.cell? ⟨bc, 3, none⟩ = some (.slice bo bd.length bi) := (blk_cell ba.out 3).trans rfl; have b8 : w11.cell? ⟨bc, 4, none⟩ = some (.int .u64 bl) := (blk_cell ba.out 4).trans rfl; have b7 : w11.cell? ⟨bc, 5, none⟩ = some (.int .u64 bk) := (blk_cell ba.out 5).trans rfl; have b6 : w11.cell? ⟨bc, 6, none⟩ = some (.int .u64 bj) := (blk_cell ba.out 6).trans rfl; have b5 := blk_frozen ba.out 0; have b4 := blk_frozen ba.out 1; have b3 := blk_frozen ba.out 2; have b2 := blk_frozen ba.out 3; have b1 := blk_frozen ba.out 4; have b0 := blk_frozen ba.out 5; have bZ := blk_frozen ba.out 6) | ((with_reducible refine gate_callee (f := 52) rfl ?_); refine goesL_ (some 22) rfl rfl Tryd.func52 (by kernel_rfl) rfl #[.slice bo bd.length bi, .int .u64 a1] rfl (by (try simp only [List.map_toArray, List.map_cons, List.map_nil]); first | done | rfl | (simp only [List.length_drop, List.length_take]; rfl)) ?_; (with_reducible refine (slices_BinarySearch_uint64_uint64.calls k _ _ bd a1 dd bP _ ?side1 ?side2 A10.out).mono ?_); (case side1 => repeat (first | exact (Kd.C_below bU.out HB.out) | (with_reducible refine Kd.C_alloc ?_ _) | (with_reducible refine Kd.C_drewN ?_ _) | (with_reducible refine Kd.C_drew ?_))); (case side2 => exact bV.out); rintro e w' ⟨rfl, ⟨nd, rfl⟩⟩; refine ⟨_, rfl, ?_⟩))
 go_ret
 exact ⟨by first | rfl | (simp [errW_none, errW_some] <;> rfl) | (simp [*, errW_none, errW_some] <;> rfl), by repeat (first | (with_reducible first | exact HB.out | apply below_alloc | apply pw_below_drewN | apply below_drew1 | refine below_set ?_ bq.out) | exact HB.out)⟩

end Go.Proofs.YtmbigoeldobaiaaDoor.XMrk
end
section
/- What the functions of the translation answer, each as a plain Lean function, and that the code comes to it; for a law: its row. Conditions: none but those that each theorem names. Written by a program of this session (wip/xp). -/
namespace Go.Proofs.YtmbigoeldobaiaaDoor.XMrk
open Go.RowKit Go.Proofs.YtmbigoeldobaiaaDoorW.PrintWords Go.Proofs.YtmbigoeldobaiaaDoorW.PrintLast Go.Proofs.YtmbigoeldobaiaaDoorW.PrintMore
attribute [local go_sem] max2_int min2_int max_two min_two max_three min_three max_four min_four   -- for this text's walks alone
set_option linter.unusedVariables false
set_option linter.unusedSimpArgs false

-- NOT PRINTED: function 61 (abi_NoEscape)

-- NOT PRINTED: function 54 (strings_Builder_copyCheck)

-- NOT PRINTED: function 41 (strings_Builder_WriteString)

/-! ### num_Put: function 42 -/
def num_Put.l0 : Nat → Int → List Int → Option (ByteArray)
 | 0, _, _ => none
 | k + 1, x0, x3 => if x0 ≥ 128 then (if x3.length < 140737488355328 then (num_Put.l0 k (x0 / 128) (x3 ++ [Go.bits .or .u8 ((x0) % 256) 128])) else (none)) else (if x3.length < 140737488355328 then (some (strOfNums (x3 ++ [(x0) % 256]))) else (none))
def num_Put.f (k : Nat) (a0 : Int) : Option (ByteArray) := num_Put.l0 k a0 ([] : List Int)
set_option maxHeartbeats 8000000 in
set_option maxRecDepth 100000 in
theorem num_Put.calls (k : Nat) (a0 : Int) (r : ByteArray) (w : World) (h : num_Put.f k a0 = some r) :
  Calls Tryd.prog 42 #[.int .u64 a0] w fun e w' => e = .returned (.string r) ∧ Below w.heap.size w w' := by
 have HB := Aside0.mk (Below.refl w.heap.size w)
 have H : (num_Put.l0 k a0 ([] : List Int)) = some r := h
 clear h
 have H' := Aside0.mk H
 clear H
 go_enter Tryd.func42, Tryd.ntmps42
 go_wp2
 go_loopg [0, 3] k (fun kq v0 v3 w' => ∃ (ba : Int) (bb : List Int), v0 = .int .u64 ba ∧ Aside0 (num_Put.l0 kq ba bb = some r) ∧ Aside0 (kq ≤ k) ∧ Aside0 (Kd.R (Kd.int .u8) 5 w' w.heap.size (fun _ => True) v3 bb) ∧ Aside0 (Below w.heap.size w w'))
 case atStart => exact ⟨(a0), (([] : List Int)), (by first | rfl | (simp; done) | (simp [*]; done)), H', ⟨Nat.le_refl _⟩, ⟨by first | exact Kd.R_nil _ _ _ _ _ | exact Kd.N_nil _ _ _ _ _ | exact Kd.V_nil _ _ _ _ _ | exact Kd.Q_nil _ _ _ _ _ | exact Kd.S_nil _ _ _ _ _⟩, ⟨by repeat (first | (with_reducible first | exact HB.out | apply below_alloc | apply pw_below_drewN | apply below_drew1) | exact HB.out)⟩⟩
 case round =>
  clear H'
  obtain ⟨ba, bb, rfl, HA, HK1, be, HB⟩ := hrel
  cases gk with
  | zero => exact absurd HA.out (by simp [num_Put.l0])
  | succ k1 => ?_
  have H := HA.out
  clear HA
  simp only [num_Put.l0] at H
  by_cases c2 : ba ≥ 128
  case neg =>
   rw [if_neg c2] at H
   have bl : decide (128 ≤ ba) = false := decide_eq_false c2
   clear c2
   by_cases c5 : bb.length < 140737488355328
   case neg =>
    rw [if_neg c5] at H
    exact absurd H (by simp)

   rw [if_pos c5] at H
   have bm := Aside0.mk c5
   clear c5
   obtain ⟨bk, bc⟩ : ∃ y_ : List Int, y_ = (bb ++ [(ba) % 256]) := ⟨_, rfl⟩
   replace H : (some (strOfNums bk)) = some r := by first | (rw [bc]; with_reducible exact H) | (have H2_ := (Option.bind_some _ _).symm.trans H; rw [bc]; with_reducible exact H2_) | (have H2_ := (Option.bind_some _ _).symm.trans H; with_reducible exact H2_) | with_reducible exact H | (rw [bc]; exact H) | exact H
   have bg := Aside0.mk bc
   clear bc
   obtain rfl := Option.some.inj H
   go_wp2_with (first | ((with_reducible refine gate_builtin (b := .append) (xs := #[.tmp 14, .tmp 17]) rfl ?_); at_builtin; refine Kd.R_append (Kd.int .u8) (w0 := w) w.heap.size rfl (.tmp 14) (.tmp 17) 77 5 (.int .u8 0) 1 rfl Tryd.underlying77 info5 rfl (by decide) (by omega) u3 bb ((ba) % 256) [.int .u8 ((ba) % 256)] (fun _ => True) (fun _ => False) rfl rfl ?aP (fun _ hk => hk.elim) ?aF ?aO ?aB ?aS ?aL ?_; (case aP => exact rfl); (case aB => exact (by repeat (first | (with_reducible first | exact HB.out | apply below_alloc | apply pw_below_drewN | apply below_drew1) | exact HB.out))); (case aF => exact (fun _ _ => trivial)); (case aO => exact (by (with_reducible repeat (first | apply Kd.R_alloc | apply Kd.R_drewN | apply Kd.R_drew)); exact be.out)); (case aS => exact (below_size (by repeat (first | (with_reducible first | exact HB.out | apply below_alloc | apply pw_below_drewN | apply below_drew1) | exact HB.out)))); (case aL => have := bm.out; omega); intro bo w6 ho hb hg hat; rw [← bg.out] at ho; have n0_ := Aside0.mk (hb); have n1_ := Aside0.mk (ho); clear HB; clear be; have HB := n0_; have bi := n1_; clear n0_ n1_; clear ho hb hg hat; have bq := own_string (P := Tryd.prog) Tryd.underlying77 Tryd.underlying5 Tryd.underlying9 (Kd.own_of_R bi.out)))
   go_ret
   exact ⟨by first | rfl | (simp [errW_none, errW_some] <;> rfl) | (simp [*, errW_none, errW_some] <;> rfl), by repeat (first | (with_reducible first | exact HB.out | apply below_alloc | apply pw_below_drewN | apply below_drew1) | exact HB.out)⟩
  rw [if_pos c2] at H
  have bl : decide (128 ≤ ba) = true := decide_eq_true c2
  clear c2
  by_cases c3 : bb.length < 140737488355328
  case neg =>
   rw [if_neg c3] at H
   exact absurd H (by simp)
  rw [if_pos c3] at H
  have bn := Aside0.mk c3
  clear c3
  obtain ⟨bf, bd⟩ : ∃ y_ : List Int, y_ = (bb ++ [Go.bits .or .u8 ((ba) % 256) 128]) := ⟨_, rfl⟩
  replace H : (num_Put.l0 k1 (ba / 128) bf) = some r := by first | (rw [bd]; with_reducible exact H) | (have H2_ := (Option.bind_some _ _).symm.trans H; rw [bd]; with_reducible exact H2_) | (have H2_ := (Option.bind_some _ _).symm.trans H; with_reducible exact H2_) | with_reducible exact H | (rw [bd]; exact H) | exact H
  have bh := Aside0.mk bd
  clear bd
  have H' := Aside0.mk H
  clear H
  go_wp2_with (first | ((with_reducible refine gate_builtin (b := .append) (xs := #[.tmp 8, .tmp 12]) rfl ?_); at_builtin; refine Kd.R_append (Kd.int .u8) (w0 := w) w.heap.size rfl (.tmp 8) (.tmp 12) 77 5 (.int .u8 0) 1 rfl Tryd.underlying77 info5 rfl (by decide) (by omega) u3 bb (Go.bits .or .u8 ((ba) % 256) 128) [.int .u8 (Go.bits .or .u8 ((ba) % 256) 128)] (fun _ => True) (fun _ => False) rfl rfl ?aP (fun _ hk => hk.elim) ?aF ?aO ?aB ?aS ?aL ?_; (case aP => exact rfl); (case aB => exact (by repeat (first | (with_reducible first | exact HB.out | apply below_alloc | apply pw_below_drewN | apply below_drew1) | exact HB.out))); (case aF => exact (fun _ _ => trivial)); (case aO => exact (by (with_reducible repeat (first | apply Kd.R_alloc | apply Kd.R_drewN | apply Kd.R_drew)); exact be.out)); (case aS => exact (below_size (by repeat (first | (with_reducible first | exact HB.out | apply below_alloc | apply pw_below_drewN | apply below_drew1) | exact HB.out)))); (case aL => have := bn.out; omega); intro bp w4 ho hb hg hat; rw [← bh.out] at ho; have n0_ := Aside0.mk (hb); have n1_ := Aside0.mk (ho); clear HB; clear be; have HB := n0_; have bj := n1_; clear n0_ n1_; clear ho hb hg hat))
  go_roundg k1
  case measure => have := HK1.out; omega
  case rel => exact ⟨(ba / 128), (bf), (by first | rfl | (simp; done) | (simp [*]; done)), H', ⟨by have := HK1.out; omega⟩, ⟨by (with_reducible repeat (first | apply Kd.R_alloc | apply Kd.R_drewN | apply Kd.R_drew)); exact bj.out⟩, ⟨by repeat (first | (with_reducible first | exact HB.out | apply below_alloc | apply pw_below_drewN | apply below_drew1) | exact HB.out)⟩⟩
-- NOT PRINTED: function 43 (strings_Builder_String)

end Go.Proofs.YtmbigoeldobaiaaDoor.XMrk
end
section
/- What the functions of the translation answer, each as a plain Lean function, and that the code comes to it; for a law: its row. Conditions: none but those that each theorem names. Written by a program of this session (wip/xp). -/
namespace Go.Proofs.YtmbigoeldobaiaaDoor.XMrk
open Go.RowKit Go.Proofs.YtmbigoeldobaiaaDoorW.PrintWords Go.Proofs.YtmbigoeldobaiaaDoorW.PrintLast Go.Proofs.YtmbigoeldobaiaaDoorW.PrintMore
attribute [local go_sem] max2_int min2_int max_two min_two max_three min_three max_four min_four   -- for this text's walks alone
set_option linter.unusedVariables false
set_option linter.unusedSimpArgs false

/-! ### num_PutText: function 24 -/
def num_PutText.f (k : Nat) (a0 : ByteArray) : Option (ByteArray) := (num_Put.f k (IntKind.u64.wrap ((a0.size : Int)))).bind fun ba => (if ba.size + a0.size ≤ 9223372036854775807 then (some (ba ++ a0)) else (none))
set_option maxHeartbeats 8000000 in
set_option maxRecDepth 100000 in
theorem num_PutText.calls (k : Nat) (a0 : ByteArray) (r : ByteArray) (w : World) (h : num_PutText.f k a0 = some r) :
  Calls Tryd.prog 24 #[.string a0] w fun e w' => e = .returned (.string r) ∧ Below w.heap.size w w' := by
 have HB := Aside0.mk (Below.refl w.heap.size w)
 have H : ((num_Put.f k (IntKind.u64.wrap ((a0.size : Int)))).bind fun ba => (if ba.size + a0.size ≤ 9223372036854775807 then (some (ba ++ a0)) else (none))) = some r := h
 clear h
 replace H := Option.bind_eq_some_iff.mp H
 obtain ⟨ba, A20, H⟩ := H
 replace H : (if ba.size + a0.size ≤ 9223372036854775807 then (some (ba ++ a0)) else (none)) = some r := H
 have A2 := Aside0.mk A20
 clear A20
 by_cases c3 : ba.size + a0.size ≤ 9223372036854775807
 case neg =>
  rw [if_neg c3] at H
  exact absurd H (by simp)

 rw [if_pos c3] at H
 have bd := eq_true c3
 have bc : decide (ba.size + a0.size ≤ 9223372036854775807) = true := decide_eq_true c3
 try have bb : (9223372036854775807 < ba.size + a0.size) = False := eq_false (Nat.not_lt.2 c3)
 clear c3
 obtain rfl := Option.some.inj H
 go_enter Tryd.func24, Tryd.ntmps24
 go_wp2_with (first | ((with_reducible refine gate_callee (f := 42) rfl ?_); refine goesL_ (some 6) rfl rfl Tryd.func42 (by kernel_rfl) rfl #[.int .u64 (IntKind.u64.wrap ((a0.size : Int)))] rfl (by (try simp only [List.map_toArray, List.map_cons, List.map_nil]); first | done | rfl | (simp only [List.length_drop, List.length_take]; rfl)) ?_; (with_reducible refine (num_Put.calls k (IntKind.u64.wrap ((a0.size : Int))) ba _ A2.out).mono ?_); rintro e w4 ⟨rfl, hb⟩; refine ⟨_, rfl, ?_⟩; replace HB := Aside0.mk (below_step (by repeat (first | (with_reducible first | exact HB.out | apply below_alloc | apply pw_below_drewN | apply below_drew1) | exact HB.out)) hb); (try clear hb); (try clear hb2); (try clear hk); (try clear hi)))
 go_ret
 exact ⟨by first | rfl | (simp [errW_none, errW_some] <;> rfl) | (simp [*, errW_none, errW_some] <;> rfl), by repeat (first | (with_reducible first | exact HB.out | apply below_alloc | apply pw_below_drewN | apply below_drew1) | exact HB.out)⟩
end Go.Proofs.YtmbigoeldobaiaaDoor.XMrk
end
section
/- What the functions of the translation answer, each as a plain Lean function, and that the code comes to it; for a law: its row. Conditions: none but those that each theorem names. Written by a program of this session (wip/xp). -/
namespace Go.Proofs.YtmbigoeldobaiaaDoor.XMrk
open Go.RowKit Go.Proofs.YtmbigoeldobaiaaDoorW.PrintWords Go.Proofs.YtmbigoeldobaiaaDoorW.PrintLast Go.Proofs.YtmbigoeldobaiaaDoorW.PrintMore
attribute [local go_sem] max2_int min2_int max_two min_two max_three min_three max_four min_four   -- for this text's walks alone
theorem zx8_0 {p : Prop} (h : p := by first | rfl | (simp; done) | (simp [*]; done)) : p := h
set_option linter.unusedVariables false
set_option linter.unusedSimpArgs false

/-! ### num_Take: function 44 -/
mutual
def num_Take.l0 : Nat → ByteArray → Int → Int → Int → Int → Option (Int × ByteArray × Int)
 | 0, _, _, _, _, _ => none
 | k + 1, x0, x5, x6, x10, x11 => if x11 < x10 then (if 0 ≤ x11 then (if x11 < (x0.size : Int) then (if x11 = 9 then (num_Take.j1 k x0 x5 x6 x11 (IntKind.u64.wrap (bt x0 x11)) x10 x11 (decide ((IntKind.u64.wrap (bt x0 x11)) > 1))) else (num_Take.j1 k x0 x5 x6 x11 (IntKind.u64.wrap (bt x0 x11)) x10 x11 false)) else (none)) else (none)) else (if x6 < 0 then (some (0, (⟨#[]⟩ : ByteArray), 2)) else (if 0 ≤ x6 then (if x6 ≤ (x0.size : Int) then (some (x5, x0.extract (x6 : Int).toNat x0.size, 0)) else (none)) else (none)))
def num_Take.j1 : Nat → ByteArray → Int → Int → Int → Int → Int → Int → Bool → Option (Int × ByteArray × Int)
 | 0, _, _, _, _, _, _, _, _ => none
 | k + 1, x0, x5, x6, x7, x8, x10, x11, x18 => if x18 = true then (num_Take.j2 k x0 x5 x6 x7 x8 x10 x11 x18) else (if x7 > 0 then (num_Take.j2 k x0 x5 x6 x7 x8 x10 x11 (x8 == 0)) else (num_Take.j2 k x0 x5 x6 x7 x8 x10 x11 false))
def num_Take.j2 : Nat → ByteArray → Int → Int → Int → Int → Int → Int → Bool → Option (Int × ByteArray × Int)
 | 0, _, _, _, _, _, _, _, _ => none
 | k + 1, x0, x5, x6, x7, x8, x10, x11, x18 => if x18 = true then (if x6 < 0 then (some (0, (⟨#[]⟩ : ByteArray), 2)) else (if 0 ≤ x6 then (if x6 ≤ (x0.size : Int) then (some (x5, x0.extract (x6 : Int).toNat x0.size, 0)) else (none)) else (none))) else (if x8 < 128 then (if 0 ≤ (wrap64 (7 * x7)) then (if (wrap64 (x7 + 1)) < 0 then (some (0, (⟨#[]⟩ : ByteArray), 2)) else (if 0 ≤ (wrap64 (x7 + 1)) then (if (wrap64 (x7 + 1)) ≤ (x0.size : Int) then (some (Go.bits .or .u64 x5 (shl .u64 x8 (wrap64 (7 * x7))), x0.extract ((wrap64 (x7 + 1)) : Int).toNat x0.size, 0)) else (none)) else (none))) else (none)) else (if 0 ≤ (wrap64 (7 * x7)) then (num_Take.l0 k x0 (Go.bits .or .u64 x5 (shl .u64 (Go.bits .and .u64 x8 127) (wrap64 (7 * x7)))) x6 x10 (wrap64 (x11 + 1))) else (none)))
end
def num_Take.f (k : Nat) (a0 : ByteArray) : Option (Int × ByteArray × Int) := num_Take.l0 k a0 0 (-1) (a0.size : Int) 0
set_option maxHeartbeats 8000000 in
set_option maxRecDepth 100000 in
theorem num_Take.calls (k : Nat) (a0 : ByteArray) (r1 : Int) (r2 : ByteArray) (r3 : Int) (w : World) (h : num_Take.f k a0 = some (r1, r2, r3)) :
  Calls Tryd.prog 44 #[.string a0] w fun e w' => e = .returned (.tuple #[.int .u64 r1, .string r2, .int .i64 r3]) ∧ Drawn0 w w' := by
 have H : (num_Take.l0 k a0 0 (-1) (a0.size : Int) 0) = some (r1, r2, r3) := h
 clear h
 have H' := Aside0.mk H
 clear H
 go_enter Tryd.func44, Tryd.ntmps44
 go_wp2; repeat (go_step3; go_wp2)
 repeat (go_quiet (fail); try (go_wp2; repeat (go_step3; go_wp2)))
 (try simp only [Exit.noGoto_ret, Exit.noGoto_normal])
 go_loopg [5, 6, 11] k (fun kq v5 v6 v11 w' => ∃ (bc : Int) (bb : Int) (ba : Int), v5 = .int .u64 bc ∧ v6 = .int .i64 bb ∧ v11 = .int .i64 ba ∧ Aside0 (num_Take.l0 kq a0 bc bb (a0.size : Int) ba = some (r1, r2, r3)) ∧ Aside0 (kq ≤ k) ∧ Drawn0 w w')
 case atStart => exact ⟨(0), ((-1)), (0), zx8_0, zx8_0, zx8_0, H', ⟨Nat.le_refl _⟩, by repeat (first | exact Drawn0.refl _ | apply Drawn0.step)⟩
 case round =>
  clear H'
  obtain ⟨bc, bb, ba, rfl, rfl, rfl, HA, HK1, ⟨m1, rfl⟩⟩ := hrel
  cases gk with
  | zero => exact absurd HA.out (by simp [num_Take.l0])
  | succ k1 => ?_
  have H := HA.out
  clear HA
  simp only [num_Take.l0] at H
  by_cases c2 : ba < (a0.size : Int)
  case neg =>
   rw [if_neg c2] at H
   have bw : decide (ba < (a0.size : Int)) = false := decide_eq_false c2
   clear c2
   by_cases c26 : bb < 0
   ·rw [if_pos c26] at H
    have bA : decide (bb < 0) = true := decide_eq_true c26
    clear c26
    simp only [Option.some.injEq, Prod.mk.injEq] at H
    obtain ⟨rfl, rfl, rfl⟩ := H
    go_wp2; repeat (go_step3; go_wp2)
    repeat (go_quiet (fail); try (go_wp2; repeat (go_step3; go_wp2)))
    (try simp only [Exit.noGoto_ret, Exit.noGoto_normal])
    go_ret3
    exact ⟨by first | rfl | (simp; done) | (simp [*]; done), by repeat (first | exact Drawn0.refl _ | apply Drawn0.step)⟩
   rw [if_neg c26] at H
   have bA : decide (bb < 0) = false := decide_eq_false c26
   clear c26
   by_cases c27 : 0 ≤ bb
   case neg =>
    rw [if_neg c27] at H
    exact absurd H (by simp)

   rw [if_pos c27] at H
   have bJ := eq_true c27
   have bI : decide (0 ≤ bb) = true := decide_eq_true c27
   clear c27
   by_cases c28 : bb ≤ (a0.size : Int)
   case neg =>
    rw [if_neg c28] at H
    exact absurd H (by simp)
   rw [if_pos c28] at H
   have bH := eq_true c28
   have bG : decide (bb ≤ (a0.size : Int)) = true := decide_eq_true c28
   clear c28
   simp only [Option.some.injEq, Prod.mk.injEq] at H
   obtain ⟨rfl, rfl, rfl⟩ := H
   go_wp2; repeat (go_step3; go_wp2)
   repeat (go_quiet (fail); try (go_wp2; repeat (go_step3; go_wp2)))
   (try simp only [Exit.noGoto_ret, Exit.noGoto_normal])
   go_ret3
   exact ⟨by first | rfl | (simp; done) | (simp [*]; done), by repeat (first | exact Drawn0.refl _ | apply Drawn0.step)⟩
  rw [if_pos c2] at H
  have bw : decide (ba < (a0.size : Int)) = true := decide_eq_true c2
  clear c2
  by_cases c3 : 0 ≤ ba
  case neg =>
   rw [if_neg c3] at H
   exact absurd H (by simp)
  rw [if_pos c3] at H
  have bz : decide (0 ≤ ba) = true := decide_eq_true c3
  clear c3
  by_cases c4 : ba < (a0.size : Int)
  case neg =>
   rw [if_neg c4] at H
   exact absurd H (by simp)
  rw [if_pos c4] at H
  have bx : decide (ba < (a0.size : Int)) = true := decide_eq_true c4
  clear c4
  have HC6 := Aside0.mk H
  clear H
  have p5 : 0 ≤ (ba : Int) := of_decide_eq_true (by first | (with_reducible assumption) | assumption)
  have q5 : ba < (a0.size : Int) := of_decide_eq_true (by first | (with_reducible assumption) | assumption)
  have hx5 := bt_at a0 ba
  replace p5 := eq_true p5
  replace q5 := eq_true q5
  go_upto_region 6 with (fail)
  repeat (go_quiet (fail); go_upto_region 6 with (fail))
  go_cut [18] (fun v18 wc => ∃ (kq : Nat) (bn : Bool), v18 = .bool bn ∧ Aside0 (num_Take.j1 kq a0 bc bb ba (IntKind.u64.wrap (bt a0 ba)) (a0.size : Int) ba bn = some (r1, r2, r3)) ∧ Aside0 (kq ≤ k1) ∧ Drawn0 w wc)
  case first =>
   have H := HC6.out
   clear HC6
   by_cases c7 : ba = 9
   case neg =>
    rw [if_neg c7] at H
    have bl : (ba == 9) = false := beq_eq_false_iff_ne.mpr c7
    have bu : (ba != 9) = true := bne_iff_ne.mpr c7
    (first | rw [bl] | (simp only [i64_w, i32_w]; rw [bl]) | skip)
    have H' := Aside0.mk H
    clear H
    go_wp2; repeat (go_step3; go_wp2)
    repeat (go_quiet (fail); try (go_wp2; repeat (go_step3; go_wp2)))
    (try simp only [Exit.noGoto_ret, Exit.noGoto_normal])
    go_meet
    case rel => exact ⟨_, (false), zx8_0, H', ⟨by have := HK1.out; first | omega | exact Nat.le_refl _⟩, by repeat (first | exact Drawn0.refl _ | apply Drawn0.step)⟩
   rw [if_pos c7] at H
   have bl : (ba == 9) = true := beq_iff_eq.mpr c7
   have bu : (ba != 9) = false := bne_eq_false_iff_eq.mpr c7
   clear c7
   (first | rw [bl] | (simp only [i64_w, i32_w]; rw [bl]) | skip)
   have H' := Aside0.mk H
   clear H
   go_wp2; repeat (go_step3; go_wp2)
   repeat (go_quiet (fail); try (go_wp2; repeat (go_step3; go_wp2)))
   (try simp only [Exit.noGoto_ret, Exit.noGoto_normal])
   go_meet
   case rel => exact ⟨_, (decide ((IntKind.u64.wrap (bt a0 ba)) > 1)), zx8_0, H', ⟨by have := HK1.out; first | omega | exact Nat.le_refl _⟩, by repeat (first | exact Drawn0.refl _ | apply Drawn0.step)⟩
  case rest =>
   clear HC6
   (try clear c2); (try clear bw); (try clear p2); (try clear c3); (try clear bz); (try clear p3); (try clear c4); (try clear bx); (try clear p5); (try clear q5); (try clear hx5); (try clear c7); (try clear bl); (try clear bu); (try clear p5); (try clear q5)
   obtain ⟨kq, bn, rfl, HA, HJ5, ⟨mc5, rfl⟩⟩ := hcut
   cases kq with
   | zero => exact absurd HA.out (by simp [num_Take.j1])
   | succ kj5 => ?_
   have H := HA.out
   clear HA
   simp only [num_Take.j1] at H
   have HC8 := Aside0.mk H
   clear H
   go_upto_if 18 with (fail)
   repeat (go_quiet (fail); go_upto_if 18 with (fail))
   go_cut [18] (fun v18 wc => ∃ (kq : Nat) (bm : Bool), v18 = .bool bm ∧ Aside0 (num_Take.j2 kq a0 bc bb ba (IntKind.u64.wrap (bt a0 ba)) (a0.size : Int) ba bm = some (r1, r2, r3)) ∧ Aside0 (kq ≤ kj5) ∧ Drawn0 w wc)
   case first =>
    have H := HC8.out
    clear HC8
    by_cases c9 : bn = true
    ·subst c9
     have H1 : (num_Take.j2 kj5 a0 bc bb ba (IntKind.u64.wrap (bt a0 ba)) (a0.size : Int) ba true) = some (r1, r2, r3) := by rw [if_pos rfl] at H; exact H
     clear H
     have H := H1
     clear H1
     have H' := Aside0.mk H
     clear H
     go_wp2; repeat (go_step3; go_wp2)
     repeat (go_quiet (fail); try (go_wp2; repeat (go_step3; go_wp2)))
     (try simp only [Exit.noGoto_ret, Exit.noGoto_normal])
     go_meet
     case rel => exact ⟨_, (true), zx8_0, H', ⟨by have := HK1.out; have := HJ5.out; first | omega | exact Nat.le_refl _⟩, by repeat (first | exact Drawn0.refl _ | apply Drawn0.step)⟩
    replace c9 := Bool.eq_false_iff.mpr c9
    subst c9
    have H1 : (if ba > 0 then (num_Take.j2 kj5 a0 bc bb ba (IntKind.u64.wrap (bt a0 ba)) (a0.size : Int) ba ((IntKind.u64.wrap (bt a0 ba)) == 0)) else (num_Take.j2 kj5 a0 bc bb ba (IntKind.u64.wrap (bt a0 ba)) (a0.size : Int) ba false)) = some (r1, r2, r3) := by rw [if_neg (show ¬ (false = true) by decide)] at H; exact H
    clear H
    have H := H1
    clear H1
    by_cases c10 : ba > 0
    case neg =>
     rw [if_neg c10] at H
     have be : decide (0 < ba) = false := decide_eq_false c10
     clear c10
     (first | rw [be] | (simp only [i64_w, i32_w]; rw [be]) | skip)
     have H' := Aside0.mk H
     clear H
     go_wp2; repeat (go_step3; go_wp2)
     repeat (go_quiet (fail); try (go_wp2; repeat (go_step3; go_wp2)))
     (try simp only [Exit.noGoto_ret, Exit.noGoto_normal])
     go_meet
     case rel => exact ⟨_, (false), zx8_0, H', ⟨by have := HK1.out; have := HJ5.out; first | omega | exact Nat.le_refl _⟩, by repeat (first | exact Drawn0.refl _ | apply Drawn0.step)⟩
    rw [if_pos c10] at H
    have be : decide (0 < ba) = true := decide_eq_true c10
    clear c10
    (first | rw [be] | (simp only [i64_w, i32_w]; rw [be]) | skip)
    have H' := Aside0.mk H
    clear H
    go_wp2; repeat (go_step3; go_wp2)
    repeat (go_quiet (fail); try (go_wp2; repeat (go_step3; go_wp2)))
    (try simp only [Exit.noGoto_ret, Exit.noGoto_normal])
    go_meet
    case rel => exact ⟨_, (((IntKind.u64.wrap (bt a0 ba)) == 0)), zx8_0, H', ⟨by have := HK1.out; have := HJ5.out; first | omega | exact Nat.le_refl _⟩, by repeat (first | exact Drawn0.refl _ | apply Drawn0.step)⟩
   case rest =>
    clear HC8
    (try clear c1); (try clear c2); (try clear bw); (try clear p2); (try clear c3); (try clear bz); (try clear p3); (try clear c4); (try clear bx); (try clear c5); (try clear p5); (try clear q5); (try clear hx5); (try clear c7); (try clear bl); (try clear bu); (try clear c9); (try clear c10); (try clear be); (try clear p2); (try clear p3); (try clear p5); (try clear q5)
    obtain ⟨kq, bm, rfl, HA, HJ7, ⟨mc7, rfl⟩⟩ := hcut
    cases kq with
    | zero => exact absurd HA.out (by simp [num_Take.j2])
    | succ kj7 => ?_
    have H := HA.out
    clear HA
    simp only [num_Take.j2] at H
    by_cases c11 : bm = true
    ·subst c11
     have H1 : (if bb < 0 then (some (0, (⟨#[]⟩ : ByteArray), 2)) else (if 0 ≤ bb then (if bb ≤ (a0.size : Int) then (some (bc, a0.extract (bb : Int).toNat a0.size, 0)) else (none)) else (none))) = some (r1, r2, r3) := by rw [if_pos rfl] at H; exact H
     clear H
     have H := H1
     clear H1
     by_cases c12 : bb < 0
     ·rw [if_pos c12] at H
      have bC : decide (bb < 0) = true := decide_eq_true c12
      clear c12
      simp only [Option.some.injEq, Prod.mk.injEq] at H
      obtain ⟨rfl, rfl, rfl⟩ := H
      go_wp2; repeat (go_step3; go_wp2)
      repeat (go_quiet (fail); try (go_wp2; repeat (go_step3; go_wp2)))
      (try simp only [Exit.noGoto_ret, Exit.noGoto_normal])
      go_ret3
      exact ⟨by first | rfl | (simp; done) | (simp [*]; done), by repeat (first | exact Drawn0.refl _ | apply Drawn0.step)⟩
     rw [if_neg c12] at H
     have bC : decide (bb < 0) = false := decide_eq_false c12
     clear c12
     by_cases c13 : 0 ≤ bb
     case neg =>
      rw [if_neg c13] at H
      exact absurd H (by simp)
     rw [if_pos c13] at H
     have bW := eq_true c13
     have bV : decide (0 ≤ bb) = true := decide_eq_true c13
     clear c13
     by_cases c14 : bb ≤ (a0.size : Int)
     case neg =>
      rw [if_neg c14] at H
      exact absurd H (by simp)
     rw [if_pos c14] at H
     have bU := eq_true c14
     have bS : decide (bb ≤ (a0.size : Int)) = true := decide_eq_true c14
     clear c14
     simp only [Option.some.injEq, Prod.mk.injEq] at H
     obtain ⟨rfl, rfl, rfl⟩ := H
     go_wp2; repeat (go_step3; go_wp2)
     repeat (go_quiet (fail); try (go_wp2; repeat (go_step3; go_wp2)))
     (try simp only [Exit.noGoto_ret, Exit.noGoto_normal])
     go_ret3
     exact ⟨by first | rfl | (simp; done) | (simp [*]; done), by repeat (first | exact Drawn0.refl _ | apply Drawn0.step)⟩
    replace c11 := Bool.eq_false_iff.mpr c11
    subst c11
    have H1 : (if (IntKind.u64.wrap (bt a0 ba)) < 128 then (if 0 ≤ (wrap64 (7 * ba)) then (if (wrap64 (ba + 1)) < 0 then (some (0, (⟨#[]⟩ : ByteArray), 2)) else (if 0 ≤ (wrap64 (ba + 1)) then (if (wrap64 (ba + 1)) ≤ (a0.size : Int) then (some (Go.bits .or .u64 bc (shl .u64 (IntKind.u64.wrap (bt a0 ba)) (wrap64 (7 * ba))), a0.extract ((wrap64 (ba + 1)) : Int).toNat a0.size, 0)) else (none)) else (none))) else (none)) else (if 0 ≤ (wrap64 (7 * ba)) then (num_Take.l0 kj7 a0 (Go.bits .or .u64 bc (shl .u64 (Go.bits .and .u64 (IntKind.u64.wrap (bt a0 ba)) 127) (wrap64 (7 * ba)))) bb (a0.size : Int) (wrap64 (ba + 1))) else (none))) = some (r1, r2, r3) := by rw [if_neg (show ¬ (false = true) by decide)] at H; exact H
    clear H
    have H := H1
    clear H1
    by_cases c15 : (IntKind.u64.wrap (bt a0 ba)) < 128
    case neg =>
     rw [if_neg c15] at H
     have bB : decide ((IntKind.u64.wrap (bt a0 ba)) < 128) = false := decide_eq_false c15
     clear c15
     obtain ⟨bf, bo⟩ : ∃ j_ : Int, (wrap64 (7 * ba)) = j_ := ⟨_, rfl⟩
     replace H : (if 0 ≤ (bf) then (num_Take.l0 kj7 a0 (Go.bits .or .u64 bc (shl .u64 (Go.bits .and .u64 (IntKind.u64.wrap (bt a0 ba)) 127) (bf))) bb (a0.size : Int) (wrap64 (ba + 1))) else (none)) = some (r1, r2, r3) := by first | (rw [bo] at H; exact H) | (simp only [bo] at H ⊢; exact H)
     have hji23w : (IntKind.i64.wrap (7 * ba)) = bf := (i64_w _).trans bo
     by_cases c24 : 0 ≤ (bf)
     case neg =>
      rw [if_neg c24] at H
      exact absurd H (by simp)
     rw [if_pos c24] at H
     have bL := eq_true c24
     have bK : decide (0 ≤ (bf)) = true := decide_eq_true c24
     clear c24
     obtain ⟨bp, bi⟩ : ∃ j_ : Int, (shl .u64 (Go.bits .and .u64 (IntKind.u64.wrap (bt a0 ba)) 127) (bf)) = j_ := ⟨_, rfl⟩
     replace H : (num_Take.l0 kj7 a0 (Go.bits .or .u64 bc (bp)) bb (a0.size : Int) (wrap64 (ba + 1))) = some (r1, r2, r3) := by first | (rw [bi] at H; exact H) | (simp only [bi] at H ⊢; exact H)
     have bD : (IntKind.u64.wrap ((Go.bits .and .u64 (IntKind.u64.wrap (bt a0 ba)) 127) * 2 ^ min (bf).toNat 64)) = bp := bi
     have hji25z : (bf) ≤ 64 → (IntKind.u64.wrap ((Go.bits .and .u64 (IntKind.u64.wrap (bt a0 ba)) 127) * 2 ^ (bf).toNat)) = bp := shl_small bi
     have H' := Aside0.mk H
     clear H
     go_wp2; repeat (go_step3; go_wp2)
     repeat (go_quiet (fail); try (go_wp2; repeat (go_step3; go_wp2)))
     (try simp only [Exit.noGoto_ret, Exit.noGoto_normal])
     go_roundg kj7
     case measure => have := HK1.out; have := HJ5.out; have := HJ7.out; omega
     case rel => exact ⟨(Go.bits .or .u64 bc (bp)), (bb), (wrap64 (ba + 1)), (by first | rfl | (simp; done) | (simp only [← bi] <;> (first | rfl | simp)) | (simp [*]; done)), zx8_0, zx8_0, H', ⟨by have := HK1.out; have := HJ5.out; have := HJ7.out; omega⟩, by repeat (first | exact Drawn0.refl _ | apply Drawn0.step)⟩
    rw [if_pos c15] at H
    have bB : decide ((IntKind.u64.wrap (bt a0 ba)) < 128) = true := decide_eq_true c15
    clear c15
    obtain ⟨bg, bk⟩ : ∃ j_ : Int, (wrap64 (7 * ba)) = j_ := ⟨_, rfl⟩
    replace H : (if 0 ≤ (bg) then (if (wrap64 (ba + 1)) < 0 then (some (0, (⟨#[]⟩ : ByteArray), 2)) else (if 0 ≤ (wrap64 (ba + 1)) then (if (wrap64 (ba + 1)) ≤ (a0.size : Int) then (some (Go.bits .or .u64 bc (shl .u64 (IntKind.u64.wrap (bt a0 ba)) (bg)), a0.extract ((wrap64 (ba + 1)) : Int).toNat a0.size, 0)) else (none)) else (none))) else (none)) = some (r1, r2, r3) := by first | (rw [bk] at H; exact H) | (simp only [bk] at H ⊢; exact H)
    have hji16w : (IntKind.i64.wrap (7 * ba)) = bg := (i64_w _).trans bk
    by_cases c17 : 0 ≤ (bg)
    case neg =>
     rw [if_neg c17] at H
     exact absurd H (by simp)
    rw [if_pos c17] at H
    have bR := eq_true c17
    have bQ : decide (0 ≤ (bg)) = true := decide_eq_true c17
    clear c17
    obtain ⟨bq, bd⟩ : ∃ j_ : Int, (shl .u64 (IntKind.u64.wrap (bt a0 ba)) (bg)) = j_ := ⟨_, rfl⟩
    replace H : (if (wrap64 (ba + 1)) < 0 then (some (0, (⟨#[]⟩ : ByteArray), 2)) else (if 0 ≤ (wrap64 (ba + 1)) then (if (wrap64 (ba + 1)) ≤ (a0.size : Int) then (some (Go.bits .or .u64 bc (bq), a0.extract ((wrap64 (ba + 1)) : Int).toNat a0.size, 0)) else (none)) else (none))) = some (r1, r2, r3) := by first | (rw [bd] at H; exact H) | (simp only [bd] at H ⊢; exact H)
    have bE : (IntKind.u64.wrap ((IntKind.u64.wrap (bt a0 ba)) * 2 ^ min (bg).toNat 64)) = bq := bd
    have hji18z : (bg) ≤ 64 → (IntKind.u64.wrap ((IntKind.u64.wrap (bt a0 ba)) * 2 ^ (bg).toNat)) = bq := shl_small bd
    by_cases c19 : (wrap64 (ba + 1)) < 0
    ·rw [if_pos c19] at H
     have br : decide ((wrap64 (ba + 1)) < 0) = true := decide_eq_true c19
     clear c19
     simp only [Option.some.injEq, Prod.mk.injEq] at H
     obtain ⟨rfl, rfl, rfl⟩ := H
     go_wp2; repeat (go_step3; go_wp2)
     repeat (go_quiet (fail); try (go_wp2; repeat (go_step3; go_wp2)))
     (try simp only [Exit.noGoto_ret, Exit.noGoto_normal])
     go_ret3
     exact ⟨by first | rfl | (simp; done) | (simp only [← bk, ← bd] <;> (first | rfl | simp)) | (simp [*]; done), by repeat (first | exact Drawn0.refl _ | apply Drawn0.step)⟩
    rw [if_neg c19] at H
    have br : decide ((wrap64 (ba + 1)) < 0) = false := decide_eq_false c19
    clear c19
    obtain ⟨bh, bj⟩ : ∃ j_ : Int, (wrap64 (ba + 1)) = j_ := ⟨_, rfl⟩
    replace H : (if 0 ≤ (bh) then (if (bh) ≤ (a0.size : Int) then (some (Go.bits .or .u64 bc (bq), a0.extract ((bh) : Int).toNat a0.size, 0)) else (none)) else (none)) = some (r1, r2, r3) := by first | (rw [bj] at H; exact H) | (simp only [bj] at H ⊢; exact H)
    (try rw [bj] at br)
    have hji20w : (IntKind.i64.wrap (ba + 1)) = bh := (i64_w _).trans bj
    by_cases c21 : 0 ≤ (bh)
    case neg =>
     rw [if_neg c21] at H
     exact absurd H (by simp)
    rw [if_pos c21] at H
    have bP := eq_true c21
    have bO : decide (0 ≤ (bh)) = true := decide_eq_true c21
    clear c21
    by_cases c22 : (bh) ≤ (a0.size : Int)
    case neg =>
     rw [if_neg c22] at H
     exact absurd H (by simp)
    rw [if_pos c22] at H
    have bN := eq_true c22
    have bM : decide ((bh) ≤ (a0.size : Int)) = true := decide_eq_true c22
    clear c22
    simp only [Option.some.injEq, Prod.mk.injEq] at H
    obtain ⟨rfl, rfl, rfl⟩ := H
    go_wp2; repeat (go_step3; go_wp2)
    repeat (go_quiet (fail); try (go_wp2; repeat (go_step3; go_wp2)))
    (try simp only [Exit.noGoto_ret, Exit.noGoto_normal])
    go_ret3
    exact ⟨by first | rfl | (simp; done) | (simp only [← bk, ← bd, ← bj] <;> (first | rfl | simp)) | (simp [*]; done), by repeat (first | exact Drawn0.refl _ | apply Drawn0.step)⟩
end Go.Proofs.YtmbigoeldobaiaaDoor.XMrk
end
section
/- What the functions of the translation answer, each as a plain Lean function, and that the code comes to it; for a law: its row. Conditions: none but those that each theorem names. Written by a program of this session (wip/xp). -/
namespace Go.Proofs.YtmbigoeldobaiaaDoor.XMrk
open Go.RowKit Go.Proofs.YtmbigoeldobaiaaDoorW.PrintWords Go.Proofs.YtmbigoeldobaiaaDoorW.PrintLast Go.Proofs.YtmbigoeldobaiaaDoorW.PrintMore
attribute [local go_sem] max2_int min2_int max_two min_two max_three min_three max_four min_four   -- for this text's walks alone

set_option linter.unusedVariables false
set_option linter.unusedSimpArgs false

/-- A state of type 63 at block g of W; what its slices lead to came in by w0. -/
def IsS63 (w0 W : World) (g : Nat) (f0 : ByteArray) (f1 : Bool) : Prop := W.heap[g]? = some (.cells #[.string f0, .bool f1] 63 (0, 0)) ∧ w0.heap.size ≤ g
theorem IsS63.grown {w0 W : World} {g : Nat} {f0 : ByteArray} {f1 : Bool} {W1 : World} {row : Option Nat} (h : IsS63 w0 W g f0 f1) (hw : W.grownBy W1 row) (hne : some g ≠ row) : IsS63 w0 W1 g f0 f1 := by
 obtain ⟨hb, hg⟩ := h
 exact ⟨blk_grown hb hw hne, hg⟩
theorem IsS63.below {w0 W : World} {g : Nat} {f0 : ByteArray} {f1 : Bool} {W1 : World} (h : IsS63 w0 W g f0 f1) (hw : Below W.heap.size W W1) : IsS63 w0 W1 g f0 f1 := h.grown (grown_of_below hw none) (by simp)
theorem IsS63.drewN {w0 W : World} {g : Nat} {f0 : ByteArray} {f1 : Bool} (h : IsS63 w0 W g f0 f1) (m : Nat) : IsS63 w0 (W.drewN m) g f0 f1 := h
theorem IsS63.drew {w0 W : World} {g : Nat} {f0 : ByteArray} {f1 : Bool} (h : IsS63 w0 W g f0 f1) : IsS63 w0 W.drew g f0 f1 := h
theorem IsS63.apart {w0 W : World} {g : Nat} {f0 : ByteArray} {f1 : Bool} {α : Type} {d : Kd α} {e : Nat} {base : Nat} {ok : Nat → Prop} {v : Value} {xs : List α} (h : IsS63 w0 W g f0 f1) (ho : d.R e W base ok v xs) (ht : ∀ q, q ∈ e :: d.E → q ≠ 63) : d.R e W base (fun k => ok k ∧ k ≠ g) v xs := by
 obtain ⟨hb, hg⟩ := h
 exact Kd.R_types ho hb ht
theorem IsS63.own_ne {w0 W : World} {g : Nat} {f0 : ByteArray} {f1 : Bool} {α : Type} {d : Kd α} {e : Nat} {base : Nat} {ok : Nat → Prop} {v : Value} {xs : List α} (h : IsS63 w0 W g f0 f1) (ho : d.R e W base ok v xs) (ht : e ≠ 63) : some g ≠ v.ownBlock := by
 obtain ⟨hb, hg⟩ := h
 exact Kd.R_ne ho hb ht
theorem IsS63.apartS {w0 W : World} {g : Nat} {f0 : ByteArray} {f1 : Bool} {α : Type} {d : Kd α} {e : Nat} {base : Nat} {ok : Nat → Prop} {v : Value} {xs : List α} (h : IsS63 w0 W g f0 f1) (ho : d.S e W base ok v xs) (ht : ∀ q, q ∈ e :: d.E → q ≠ 63) : d.S e W base (fun k => ok k ∧ k ≠ g) v xs := by
 obtain ⟨hb, hg⟩ := h
 exact Kd.S_types ho hb ht
theorem IsS63.own_neS {w0 W : World} {g : Nat} {f0 : ByteArray} {f1 : Bool} {α : Type} {d : Kd α} {e : Nat} {base : Nat} {ok : Nat → Prop} {v : Value} {xs : List α} (h : IsS63 w0 W g f0 f1) (ho : d.S e W base ok v xs) (ht : e ≠ 63) : some g ≠ v.ownBlock := by
 obtain ⟨hb, hg⟩ := h
 exact Kd.S_ne ho hb ht
theorem IsS63.lt {w0 W : World} {g : Nat} {f0 : ByteArray} {f1 : Bool} (h : IsS63 w0 W g f0 f1) : g < W.heap.size := by
 obtain ⟨hb, hg⟩ := h
 exact blk_lt hb
theorem IsS63.ge {w0 W : World} {g : Nat} {f0 : ByteArray} {f1 : Bool} (h : IsS63 w0 W g f0 f1) : w0.heap.size ≤ g := by
 obtain ⟨hb, hg⟩ := h
 exact hg
theorem IsS63.far {w0 W : World} {g : Nat} {f0 : ByteArray} {f1 : Bool} {p : Addr} (h : IsS63 w0 W g f0 f1) (hne : g ≠ p.block) (u : Value) : IsS63 w0 (W.setCell p u) g f0 f1 := by
 obtain ⟨hb, hg⟩ := h
 exact ⟨blk_far hb hne u, hg⟩
theorem cellS63_0 {W : World} {g : Nat} {f0 : ByteArray} {f1 : Bool} (h : W.heap[g]? = some (.cells #[.string f0, .bool f1] 63 (0, 0))) : W.cell? ⟨g, 0, none⟩ = some (.string f0) := (blk_cell h 0).trans rfl
theorem IsS63.set_0 {w0 W : World} {g : Nat} {f0 : ByteArray} {f1 : Bool} (h : IsS63 w0 W g f0 f1) (x : ByteArray) : IsS63 w0 (W.setCell ⟨g, 0, none⟩ (.string x)) g x f1 := by
 obtain ⟨hb, hg⟩ := h
 exact ⟨by simpa using blk_set hb 0 (.string x), hg⟩
theorem cellS63_1 {W : World} {g : Nat} {f0 : ByteArray} {f1 : Bool} (h : W.heap[g]? = some (.cells #[.string f0, .bool f1] 63 (0, 0))) : W.cell? ⟨g, 1, none⟩ = some (.bool f1) := (blk_cell h 1).trans rfl
theorem IsS63.set_1 {w0 W : World} {g : Nat} {f0 : ByteArray} {f1 : Bool} (h : IsS63 w0 W g f0 f1) (x : Bool) : IsS63 w0 (W.setCell ⟨g, 1, none⟩ (.bool x)) g f0 x := by
 obtain ⟨hb, hg⟩ := h
 exact ⟨by simpa using blk_set hb 1 (.bool x), hg⟩
/-! ### mark_reader_number: function 27 -/
def mark_reader_number.f (k : Nat) (bf : ByteArray) (bh : Bool) : Option (Int × ByteArray × Bool) := (num_Take.f k bf).bind fun be => (if bh = true then (some (be.1, be.2.1, true)) else (some (be.1, be.2.1, (be.2.2 != 0))))
set_option maxHeartbeats 8000000 in
set_option maxRecDepth 100000 in
theorem mark_reader_number.calls (k : Nat) (g : Nat) (bf : ByteArray) (bh : Bool) (r1 : Int) (r2 : ByteArray) (r3 : Bool) (w0 w : World) (hI : IsS63 w0 w g bf bh) (hB : Below w0.heap.size w0 w) (h : mark_reader_number.f k bf bh = some (r1, r2, r3)) :
  Calls Tryd.prog 27 #[.pointer (some ⟨g, 0, none⟩)] w fun e w' => e = .returned (.int .u64 r1) ∧ IsS63 w0 w' g r2 r3 ∧ Below w0.heap.size w0 w' ∧ KeepBut w w' g none := by
 have HI0 := Aside0.mk hI
 have HK := Aside0.mk (KeepBut.refl w g none)
 have HL := Aside0.mk hB.size
 clear hI
 have HW0 := Aside0.mk hB.size
 have HB := Aside0.mk hB
 clear hB
 have H : ((num_Take.f k bf).bind fun be => (if bh = true then (some (be.1, be.2.1, true)) else (some (be.1, be.2.1, (be.2.2 != 0))))) = some (r1, r2, r3) := h
 clear h
 replace H := Option.bind_eq_some_iff.mp H
 obtain ⟨⟨bj, bi, bo⟩, A20, H⟩ := H
 replace H : (if bh = true then (some (bj, bi, true)) else (some (bj, bi, (bo != 0)))) = some (r1, r2, r3) := H
 have A2 := Aside0.mk A20
 clear A20
 by_cases c3 : bh = true
 ·subst c3
  have H1 : (some (bj, bi, true)) = some (r1, r2, r3) := by rw [if_pos rfl] at H; exact H
  clear H
  have H := H1
  clear H1
  simp only [Option.some.injEq, Prod.mk.injEq] at H
  obtain ⟨rfl, rfl, rfl⟩ := H
  obtain ⟨bn, bu⟩ := HI0.out
  have bN := cellS63_0 bn
  have bM := cellS63_1 bn
  have bE := blk_frozen bn 0
  have bD := blk_frozen bn 1
  clear bn bu
  go_enter Tryd.func27, Tryd.ntmps27
  go_wp2_with (first | ((with_reducible refine gate_callee (f := 44) rfl ?_); refine goesL_ (some 11) rfl rfl Tryd.func44 (by kernel_rfl) rfl #[.string bf] rfl (by (try simp only [List.map_toArray, List.map_cons, List.map_nil]); first | done | rfl | (simp only [List.length_drop, List.length_take]; rfl)) ?_; (with_reducible refine (num_Take.calls k bf bj bi bo _ A2.out).mono ?_); rintro e w' ⟨rfl, ⟨nd, rfl⟩⟩; refine ⟨_, rfl, ?_⟩; (try (rw [drewN_self w]; generalize hq_ : World.drewN w _ = w; have n0_ : Aside0 (IsS63 w0 w g bf true) := ⟨by rw [← hq_]; exact (by repeat (first | (with_reducible first | exact HI0.out | apply IsS63.alloc | apply IsS63.drewN | apply IsS63.drew | apply IsS63.set_0 | apply IsS63.set_1) | exact HI0.out))⟩; have n1_ : Aside0 (KeepBut _ w g none) := ⟨by rw [← hq_]; exact (by repeat (first | (with_reducible first | exact HK.out | apply KeepBut.set_ | apply keep_drewN | apply keep_drew | apply keep_alloc) | exact HK.out))⟩; have n2_ : Aside0 (Below w0.heap.size w0 w) := ⟨by rw [← hq_]; exact (by repeat (first | (with_reducible first | exact HB.out | apply below_alloc | apply pw_below_drewN | apply below_drew1 | refine below_set ?_ (IsS63.ge HI0.out)) | exact HB.out))⟩; clear HI0 HK HB hq_; have HI0 := n0_; have HK := n1_; have HB := n2_; clear n0_ n1_ n2_)); (try (obtain ⟨bm, br⟩ := HI0.out; have bL := cellS63_0 bm; have bC := blk_frozen bm 0; have bK := cellS63_1 bm; have bB := blk_frozen bm 1; clear bm br))))
  go_ret
  exact ⟨by first | rfl | (simp [errW_none, errW_some] <;> rfl) | (simp [*, errW_none, errW_some] <;> rfl), by repeat (first | (with_reducible first | exact HI0.out | apply IsS63.alloc | apply IsS63.drewN | apply IsS63.drew | apply IsS63.set_0 | apply IsS63.set_1) | exact HI0.out), by repeat (first | (with_reducible first | exact HB.out | apply below_alloc | apply pw_below_drewN | apply below_drew1 | refine below_set ?_ (IsS63.ge HI0.out)) | exact HB.out), by repeat (first | (with_reducible first | exact HK.out | apply KeepBut.set_ | apply keep_drewN | apply keep_drew | apply keep_alloc) | exact HK.out)⟩
 replace c3 := Bool.eq_false_iff.mpr c3
 subst c3
 have H1 : (some (bj, bi, (bo != 0))) = some (r1, r2, r3) := by rw [if_neg (show ¬ (false = true) by decide)] at H; exact H
 clear H
 have H := H1
 clear H1
 simp only [Option.some.injEq, Prod.mk.injEq] at H
 obtain ⟨rfl, rfl, rfl⟩ := H
 obtain ⟨bl, bq⟩ := HI0.out
 have bJ := cellS63_0 bl
 have bI := cellS63_1 bl
 have bA := blk_frozen bl 0
 have bz := blk_frozen bl 1
 clear bl bq
 go_enter Tryd.func27, Tryd.ntmps27
 go_wp2_with (first | ((with_reducible refine gate_callee (f := 44) rfl ?_); refine goesL_ (some 11) rfl rfl Tryd.func44 (by kernel_rfl) rfl #[.string bf] rfl (by (try simp only [List.map_toArray, List.map_cons, List.map_nil]); first | done | rfl | (simp only [List.length_drop, List.length_take]; rfl)) ?_; (with_reducible refine (num_Take.calls k bf bj bi bo _ A2.out).mono ?_); rintro e w' ⟨rfl, ⟨nd, rfl⟩⟩; refine ⟨_, rfl, ?_⟩; (try (rw [drewN_self w]; generalize hq_ : World.drewN w _ = w; have n0_ : Aside0 (IsS63 w0 w g bf false) := ⟨by rw [← hq_]; exact (by repeat (first | (with_reducible first | exact HI0.out | apply IsS63.alloc | apply IsS63.drewN | apply IsS63.drew | apply IsS63.set_0 | apply IsS63.set_1) | exact HI0.out))⟩; have n1_ : Aside0 (KeepBut _ w g none) := ⟨by rw [← hq_]; exact (by repeat (first | (with_reducible first | exact HK.out | apply KeepBut.set_ | apply keep_drewN | apply keep_drew | apply keep_alloc) | exact HK.out))⟩; have n2_ : Aside0 (Below w0.heap.size w0 w) := ⟨by rw [← hq_]; exact (by repeat (first | (with_reducible first | exact HB.out | apply below_alloc | apply pw_below_drewN | apply below_drew1 | refine below_set ?_ (IsS63.ge HI0.out)) | exact HB.out))⟩; clear HI0 HK HB hq_; have HI0 := n0_; have HK := n1_; have HB := n2_; clear n0_ n1_ n2_)); (try (obtain ⟨bk, bp⟩ := HI0.out; have bH := cellS63_0 bk; have bx := blk_frozen bk 0; have bG := cellS63_1 bk; have bw := blk_frozen bk 1; clear bk bp))))
 go_ret
 exact ⟨by first | rfl | (simp [errW_none, errW_some] <;> rfl) | (simp [*, errW_none, errW_some] <;> rfl), by repeat (first | (with_reducible first | exact HI0.out | apply IsS63.alloc | apply IsS63.drewN | apply IsS63.drew | apply IsS63.set_0 | apply IsS63.set_1) | exact HI0.out), by repeat (first | (with_reducible first | exact HB.out | apply below_alloc | apply pw_below_drewN | apply below_drew1 | refine below_set ?_ (IsS63.ge HI0.out)) | exact HB.out), by repeat (first | (with_reducible first | exact HK.out | apply KeepBut.set_ | apply keep_drewN | apply keep_drew | apply keep_alloc) | exact HK.out)⟩

/-! ### num_TakeText: function 45 -/
def num_TakeText.f (k : Nat) (a0 : ByteArray) (a1 : Int) : Option (ByteArray × ByteArray × Int) := (num_Take.f k a0).bind fun ba => (if ba.2.2 = 0 then (if ba.1 > (IntKind.u64.wrap (mx a1 0)) then (some ((⟨#[]⟩ : ByteArray), (⟨#[]⟩ : ByteArray), 7)) else (if ba.1 > (IntKind.u64.wrap ((ba.2.1.size : Int))) then (some ((⟨#[]⟩ : ByteArray), (⟨#[]⟩ : ByteArray), 2)) else (if 0 ≤ ba.1 then (if ba.1 ≤ (ba.2.1.size : Int) then (some (ba.2.1.extract 0 (ba.1 : Int).toNat, ba.2.1.extract (ba.1 : Int).toNat ba.2.1.size, 0)) else (none)) else (none)))) else (some ((⟨#[]⟩ : ByteArray), (⟨#[]⟩ : ByteArray), ba.2.2)))
set_option maxHeartbeats 8000000 in
set_option maxRecDepth 100000 in
theorem num_TakeText.calls (k : Nat) (a0 : ByteArray) (a1 : Int) (r1 : ByteArray) (r2 : ByteArray) (r3 : Int) (w : World) (h : num_TakeText.f k a0 a1 = some (r1, r2, r3)) :
  Calls Tryd.prog 45 #[.string a0, .int .i64 a1] w fun e w' => e = .returned (.tuple #[.string r1, .string r2, .int .i64 r3]) ∧ Below w.heap.size w w' := by
 have HB := Aside0.mk (Below.refl w.heap.size w)
 have H : ((num_Take.f k a0).bind fun ba => (if ba.2.2 = 0 then (if ba.1 > (IntKind.u64.wrap (mx a1 0)) then (some ((⟨#[]⟩ : ByteArray), (⟨#[]⟩ : ByteArray), 7)) else (if ba.1 > (IntKind.u64.wrap ((ba.2.1.size : Int))) then (some ((⟨#[]⟩ : ByteArray), (⟨#[]⟩ : ByteArray), 2)) else (if 0 ≤ ba.1 then (if ba.1 ≤ (ba.2.1.size : Int) then (some (ba.2.1.extract 0 (ba.1 : Int).toNat, ba.2.1.extract (ba.1 : Int).toNat ba.2.1.size, 0)) else (none)) else (none)))) else (some ((⟨#[]⟩ : ByteArray), (⟨#[]⟩ : ByteArray), ba.2.2)))) = some (r1, r2, r3) := h
 clear h
 replace H := Option.bind_eq_some_iff.mp H
 obtain ⟨⟨bb, bc, bd⟩, A30, H⟩ := H
 replace H : (if bd = 0 then (if bb > (IntKind.u64.wrap (mx a1 0)) then (some ((⟨#[]⟩ : ByteArray), (⟨#[]⟩ : ByteArray), 7)) else (if bb > (IntKind.u64.wrap ((bc.size : Int))) then (some ((⟨#[]⟩ : ByteArray), (⟨#[]⟩ : ByteArray), 2)) else (if 0 ≤ bb then (if bb ≤ (bc.size : Int) then (some (bc.extract 0 (bb : Int).toNat, bc.extract (bb : Int).toNat bc.size, 0)) else (none)) else (none)))) else (some ((⟨#[]⟩ : ByteArray), (⟨#[]⟩ : ByteArray), bd))) = some (r1, r2, r3) := H
 have A3 := Aside0.mk A30
 clear A30
 by_cases c4 : bd = 0
 case neg =>
  rw [if_neg c4] at H
  have bR : (bd == 0) = false := beq_eq_false_iff_ne.mpr c4
  have bQ : (bd != 0) = true := bne_iff_ne.mpr c4
  simp only [Option.some.injEq, Prod.mk.injEq] at H
  obtain ⟨rfl, rfl, rfl⟩ := H
  go_enter Tryd.func45, Tryd.ntmps45
  go_wp2_with (first | (go_at_call 44; (with_reducible refine (num_Take.calls k a0 bb bc bd _ A3.out).mono ?_); rintro e w' ⟨rfl, ⟨nd, rfl⟩⟩; (try first | exact ⟨rfl, _, World.drewN_drewN _ _ _⟩ | exact ⟨rfl, _, Eq.trans (World.drewN_drewN _ _ _) (congrArg (World.drewN _) (Nat.add_assoc _ _ _))⟩)))
  repeat (go_quiet (first | (go_at_call 44; (with_reducible refine (num_Take.calls k a0 bb bc bd _ A3.out).mono ?_); rintro e w' ⟨rfl, ⟨nd, rfl⟩⟩; (try first | exact ⟨rfl, _, World.drewN_drewN _ _ _⟩ | exact ⟨rfl, _, Eq.trans (World.drewN_drewN _ _ _) (congrArg (World.drewN _) (Nat.add_assoc _ _ _))⟩))); try go_wp2_with (first | (go_at_call 44; (with_reducible refine (num_Take.calls k a0 bb bc bd _ A3.out).mono ?_); rintro e w' ⟨rfl, ⟨nd, rfl⟩⟩; (try first | exact ⟨rfl, _, World.drewN_drewN _ _ _⟩ | exact ⟨rfl, _, Eq.trans (World.drewN_drewN _ _ _) (congrArg (World.drewN _) (Nat.add_assoc _ _ _))⟩))))
  go_ret3
  exact ⟨by first | rfl | (simp [errW_none, errW_some] <;> rfl) | (simp [*, errW_none, errW_some] <;> rfl), by repeat (first | (with_reducible first | exact HB.out | apply below_alloc | apply pw_below_drewN | apply below_drew1) | exact HB.out)⟩

 rw [if_pos c4] at H
 have bR : (bd == 0) = true := beq_iff_eq.mpr c4
 have bQ : (bd != 0) = false := bne_eq_false_iff_eq.mpr c4
 clear c4
 obtain ⟨ji5, bg⟩ : ∃ j_ : Int, (mx a1 0) = j_ := ⟨_, rfl⟩
 replace H : (if bb > (IntKind.u64.wrap (ji5)) then (some ((⟨#[]⟩ : ByteArray), (⟨#[]⟩ : ByteArray), 7)) else (if bb > (IntKind.u64.wrap ((bc.size : Int))) then (some ((⟨#[]⟩ : ByteArray), (⟨#[]⟩ : ByteArray), 2)) else (if 0 ≤ bb then (if bb ≤ (bc.size : Int) then (some (bc.extract 0 (bb : Int).toNat, bc.extract (bb : Int).toNat bc.size, 0)) else (none)) else (none)))) = some (r1, r2, r3) := by first | (rw [bg] at H; exact H) | (simp only [bg] at H ⊢; exact H)
 (try rw [bg] at A3)
 (try (have hji5l : 0 ≤ ji5 := by (rw [← bg]; unfold mx; (repeat' split) <;> omega)))
 (try (have hji5m : 0 ≤ ji5 := by omega))
 have bS : (if a1 < 0 then 0 else a1) = ji5 := bg
 by_cases c6 : bb > (IntKind.u64.wrap (ji5))
 ·rw [if_pos c6] at H
  have bP : decide ((IntKind.u64.wrap (ji5)) < bb) = true := decide_eq_true c6
  clear c6
  simp only [Option.some.injEq, Prod.mk.injEq] at H
  obtain ⟨rfl, rfl, rfl⟩ := H
  go_enter Tryd.func45, Tryd.ntmps45
  go_wp2_with (first | (go_at_call 44; (with_reducible refine (num_Take.calls k a0 bb bc bd _ A3.out).mono ?_); rintro e w' ⟨rfl, ⟨nd, rfl⟩⟩; (try first | exact ⟨rfl, _, World.drewN_drewN _ _ _⟩ | exact ⟨rfl, _, Eq.trans (World.drewN_drewN _ _ _) (congrArg (World.drewN _) (Nat.add_assoc _ _ _))⟩)))
  repeat (go_quiet (first | (go_at_call 44; (with_reducible refine (num_Take.calls k a0 bb bc bd _ A3.out).mono ?_); rintro e w' ⟨rfl, ⟨nd, rfl⟩⟩; (try first | exact ⟨rfl, _, World.drewN_drewN _ _ _⟩ | exact ⟨rfl, _, Eq.trans (World.drewN_drewN _ _ _) (congrArg (World.drewN _) (Nat.add_assoc _ _ _))⟩))); try go_wp2_with (first | (go_at_call 44; (with_reducible refine (num_Take.calls k a0 bb bc bd _ A3.out).mono ?_); rintro e w' ⟨rfl, ⟨nd, rfl⟩⟩; (try first | exact ⟨rfl, _, World.drewN_drewN _ _ _⟩ | exact ⟨rfl, _, Eq.trans (World.drewN_drewN _ _ _) (congrArg (World.drewN _) (Nat.add_assoc _ _ _))⟩))))
  go_ret3
  exact ⟨by first | rfl | (simp [errW_none, errW_some] <;> rfl) | (simp only [← bg]; first | rfl | (simp [errW_none, errW_some] <;> rfl)) | (simp [*, errW_none, errW_some] <;> rfl), by repeat (first | (with_reducible first | exact HB.out | apply below_alloc | apply pw_below_drewN | apply below_drew1) | exact HB.out)⟩
 rw [if_neg c6] at H
 have bP : decide ((IntKind.u64.wrap (ji5)) < bb) = false := decide_eq_false c6
 clear c6
 by_cases c7 : bb > (IntKind.u64.wrap ((bc.size : Int)))
 ·rw [if_pos c7] at H
  have bO : decide ((IntKind.u64.wrap ((bc.size : Int))) < bb) = true := decide_eq_true c7
  clear c7
  simp only [Option.some.injEq, Prod.mk.injEq] at H
  obtain ⟨rfl, rfl, rfl⟩ := H
  go_enter Tryd.func45, Tryd.ntmps45
  go_wp2_with (first | (go_at_call 44; (with_reducible refine (num_Take.calls k a0 bb bc bd _ A3.out).mono ?_); rintro e w' ⟨rfl, ⟨nd, rfl⟩⟩; (try first | exact ⟨rfl, _, World.drewN_drewN _ _ _⟩ | exact ⟨rfl, _, Eq.trans (World.drewN_drewN _ _ _) (congrArg (World.drewN _) (Nat.add_assoc _ _ _))⟩)))
  repeat (go_quiet (first | (go_at_call 44; (with_reducible refine (num_Take.calls k a0 bb bc bd _ A3.out).mono ?_); rintro e w' ⟨rfl, ⟨nd, rfl⟩⟩; (try first | exact ⟨rfl, _, World.drewN_drewN _ _ _⟩ | exact ⟨rfl, _, Eq.trans (World.drewN_drewN _ _ _) (congrArg (World.drewN _) (Nat.add_assoc _ _ _))⟩))); try go_wp2_with (first | (go_at_call 44; (with_reducible refine (num_Take.calls k a0 bb bc bd _ A3.out).mono ?_); rintro e w' ⟨rfl, ⟨nd, rfl⟩⟩; (try first | exact ⟨rfl, _, World.drewN_drewN _ _ _⟩ | exact ⟨rfl, _, Eq.trans (World.drewN_drewN _ _ _) (congrArg (World.drewN _) (Nat.add_assoc _ _ _))⟩))))
  go_ret3
  exact ⟨by first | rfl | (simp [errW_none, errW_some] <;> rfl) | (simp only [← bg]; first | rfl | (simp [errW_none, errW_some] <;> rfl)) | (simp [*, errW_none, errW_some] <;> rfl), by repeat (first | (with_reducible first | exact HB.out | apply below_alloc | apply pw_below_drewN | apply below_drew1) | exact HB.out)⟩
 rw [if_neg c7] at H
 have bO : decide ((IntKind.u64.wrap ((bc.size : Int))) < bb) = false := decide_eq_false c7
 clear c7
 by_cases c8 : 0 ≤ bb
 case neg =>
  rw [if_neg c8] at H
  exact absurd H (by simp)
 rw [if_pos c8] at H
 have bZ := eq_true c8
 have bY : decide (0 ≤ bb) = true := decide_eq_true c8
 clear c8
 by_cases c9 : bb ≤ (bc.size : Int)
 case neg =>
  rw [if_neg c9] at H
  exact absurd H (by simp)
 rw [if_pos c9] at H
 have bX := eq_true c9
 have bW : decide (bb ≤ (bc.size : Int)) = true := decide_eq_true c9
 clear c9
 have bV := eq_true (of_decide_eq_true (by first | (with_reducible assumption) | assumption) : 0 ≤ bb)
 have bU := eq_true (of_decide_eq_true (by first | (with_reducible assumption) | assumption) : bb ≤ (bc.size : Int))
 simp only [Option.some.injEq, Prod.mk.injEq] at H
 obtain ⟨rfl, rfl, rfl⟩ := H
 go_enter Tryd.func45, Tryd.ntmps45
 go_wp2_with (first | (go_at_call 44; (with_reducible refine (num_Take.calls k a0 bb bc bd _ A3.out).mono ?_); rintro e w' ⟨rfl, ⟨nd, rfl⟩⟩; (try first | exact ⟨rfl, _, World.drewN_drewN _ _ _⟩ | exact ⟨rfl, _, Eq.trans (World.drewN_drewN _ _ _) (congrArg (World.drewN _) (Nat.add_assoc _ _ _))⟩)))
 repeat (go_quiet (first | (go_at_call 44; (with_reducible refine (num_Take.calls k a0 bb bc bd _ A3.out).mono ?_); rintro e w' ⟨rfl, ⟨nd, rfl⟩⟩; (try first | exact ⟨rfl, _, World.drewN_drewN _ _ _⟩ | exact ⟨rfl, _, Eq.trans (World.drewN_drewN _ _ _) (congrArg (World.drewN _) (Nat.add_assoc _ _ _))⟩))); try go_wp2_with (first | (go_at_call 44; (with_reducible refine (num_Take.calls k a0 bb bc bd _ A3.out).mono ?_); rintro e w' ⟨rfl, ⟨nd, rfl⟩⟩; (try first | exact ⟨rfl, _, World.drewN_drewN _ _ _⟩ | exact ⟨rfl, _, Eq.trans (World.drewN_drewN _ _ _) (congrArg (World.drewN _) (Nat.add_assoc _ _ _))⟩))))
 go_ret3
 exact ⟨by first | rfl | (simp [errW_none, errW_some] <;> rfl) | (simp only [← bg]; first | rfl | (simp [errW_none, errW_some] <;> rfl)) | (simp [*, errW_none, errW_some] <;> rfl), by repeat (first | (with_reducible first | exact HB.out | apply below_alloc | apply pw_below_drewN | apply below_drew1) | exact HB.out)⟩
end Go.Proofs.YtmbigoeldobaiaaDoor.XMrk
end
section
/- What the functions of the translation answer, each as a plain Lean function, and that the code comes to it; for a law: its row. Conditions: none but those that each theorem names. Written by a program of this session (wip/xp). -/
namespace Go.Proofs.YtmbigoeldobaiaaDoor.XMrk
open Go.RowKit Go.Proofs.YtmbigoeldobaiaaDoorW.PrintWords Go.Proofs.YtmbigoeldobaiaaDoorW.PrintLast Go.Proofs.YtmbigoeldobaiaaDoorW.PrintMore
attribute [local go_sem] max2_int min2_int max_two min_two max_three min_three max_four min_four   -- for this text's walks alone
set_option linter.unusedVariables false
set_option linter.unusedSimpArgs false

/-! ### ledger_New: function 35 -/
def ledger_New.f  : Option (Int × Int × (List (S55))) := some (1, 1, ([] : List (S55)))
set_option maxHeartbeats 8000000 in
set_option maxRecDepth 100000 in
theorem ledger_New.calls  (r1 : Int) (r2 : Int) (r3 : List (S55)) (w : World) (h : ledger_New.f  = some (r1, r2, r3)) :
  Calls Tryd.prog 35 #[] w fun e w' => ∃ v2_ : Value, e = .returned (.agg #[.int .u64 r1, .int .u64 r2, v2_]) ∧ Kd.S k55 55 w' w.heap.size (fun _ => True) v2_ r3 ∧ Below w.heap.size w w' := by
 have bk := Tryd.underlying25
 have HB := Aside0.mk (Below.refl w.heap.size w)
 have H : (some (1, 1, ([] : List (S55)))) = some (r1, r2, r3) := h
 clear h
 simp only [Option.some.injEq, Prod.mk.injEq] at H
 obtain ⟨rfl, rfl, rfl⟩ := H
 go_enter Tryd.func35, Tryd.ntmps35
 go_wp2_with (first | ((with_reducible refine gate_dst (N := 0) rfl ?_); refine box_event ?hg (N := 0) ?hd (cs := #[.int .u64 0, .int .u64 0, .slice none 0 0]) (t := 25) ?hr ?_; (case hd => rfl); (case hg => rfl); (case hr => first | (go_simp; done) | (go_simp; rfl)); intro bb hg w1 hbox hb; have ba := Aside0.mk (hbox); have bj := Aside0.mk ((by rw [hg]; exact (below_size (by repeat (first | (with_reducible first | exact HB.out | apply below_alloc | apply pw_below_drewN | apply below_drew1) | exact HB.out))) : w.heap.size ≤ bb)); have bc := Aside0.mk ((by rw [hg]; exact (below_size (by repeat (first | (with_reducible first | exact HB.out | apply below_alloc | apply pw_below_drewN | apply below_drew1) | exact HB.out))) : w.heap.size ≤ bb)); replace HB := Aside0.mk (below_step (by repeat (first | (with_reducible first | exact HB.out | apply below_alloc | apply pw_below_drewN | apply below_drew1) | exact HB.out)) hb); clear hb hbox hg; have bi : w1.cell? ⟨bb, 0, none⟩ = some (.int .u64 0) := (blk_cell ba.out 0).trans rfl; have bh : w1.cell? ⟨bb, 1, none⟩ = some (.int .u64 0) := (blk_cell ba.out 1).trans rfl; have bg : w1.cell? ⟨bb, 2, none⟩ = some (.slice none 0 0) := (blk_cell ba.out 2).trans rfl; have bf := blk_frozen ba.out 0; have be := blk_frozen ba.out 1; have bd := blk_frozen ba.out 2))
 refine bodyPost_ret (results_cell_row rfl _ _ bb 25 #[.int .u64 1, .int .u64 1, .slice none 0 0] (0, 0) _ rfl (by (with_reducible repeat (first | refine blk_drewN ?_ _ | refine blk_drew ?_ | refine blk_alloc ?_ _)); refine blk_put (cs := #[.int .u64 1, .int .u64 1, .slice none 0 0]) ?_ 2 _ rfl; (with_reducible repeat (first | refine blk_drewN ?_ _ | refine blk_drew ?_ | refine blk_alloc ?_ _)); refine blk_put (cs := #[.int .u64 1, .int .u64 0, .slice none 0 0]) ?_ 1 _ rfl; (with_reducible repeat (first | refine blk_drewN ?_ _ | refine blk_drew ?_ | refine blk_alloc ?_ _)); refine blk_put (cs := #[.int .u64 0, .int .u64 0, .slice none 0 0]) ?_ 0 _ rfl; (with_reducible repeat (first | refine blk_drewN ?_ _ | refine blk_drew ?_ | refine blk_alloc ?_ _)); exact ba.out) Tryd.underlying25 rfl (by kernel_rfl)) rfl ?_
 exact ⟨_, by first | rfl | (simp [errW_none, errW_some] <;> rfl) | (simp [*, errW_none, errW_some] <;> rfl), by first | exact Kd.S_nil _ _ _ _ _ | exact Kd.N_nil _ _ _ _ _ | exact Kd.V_nil _ _ _ _ _ | exact Kd.Q_nil _ _ _ _ _ | exact Kd.R_nil _ _ _ _ _, by repeat (first | (with_reducible first | exact HB.out | apply below_alloc | apply pw_below_drewN | apply below_drew1 | refine below_set ?_ bc.out) | exact HB.out)⟩

end Go.Proofs.YtmbigoeldobaiaaDoor.XMrk
end
section
/- What the functions of the translation answer, each as a plain Lean function, and that the code comes to it; for a law: its row. Conditions: none but those that each theorem names. Written by a program of this session (wip/xp). -/
namespace Go.Proofs.YtmbigoeldobaiaaDoor.XMrk
open Go.RowKit Go.Proofs.YtmbigoeldobaiaaDoorW.PrintWords Go.Proofs.YtmbigoeldobaiaaDoorW.PrintLast Go.Proofs.YtmbigoeldobaiaaDoorW.PrintMore
attribute [local go_sem] max2_int min2_int max_two min_two max_three min_three max_four min_four   -- for this text's walks alone
set_option linter.unusedVariables false
set_option linter.unusedSimpArgs false

/-! ### postroomref11_sameInts: function 34 -/
def postroomref11_sameInts.l0 : Nat → List Int → List Int → Int → Option (Bool)
 | 0, _, _, _ => none
 | k + 1, x0, x1, x5 => if x5 < (x0.length : Int) then (if 0 ≤ x5 then (if x5 < (x1.length : Int) then (if (rd x0 x5) = (rd x1 x5) then (postroomref11_sameInts.l0 k x0 x1 (wrap64 (x5 + 1))) else (some false)) else (none)) else (none)) else (some true)
def postroomref11_sameInts.f (k : Nat) (l0 : List Int) (l1 : List Int) : Option (Bool) := if (l0.length : Int) = (l1.length : Int) then (postroomref11_sameInts.l0 k l0 l1 0) else (some false)
set_option maxHeartbeats 8000000 in
set_option maxRecDepth 100000 in
theorem postroomref11_sameInts.calls (k : Nat) (A0 : Option Addr) (c0 : Nat) (l0 : List Int) (A1 : Option Addr) (c1 : Nat) (l1 : List Int) (r : Bool) (w : World) (hr0 : Kd.C (Kd.int .u64) w A0 l0.length l0) (hc0 : l0.length ≤ c0) (hr1 : Kd.C (Kd.int .u64) w A1 l1.length l1) (hc1 : l1.length ≤ c1) (h : postroomref11_sameInts.f k l0 l1 = some r) :
  Calls Tryd.prog 34 #[.slice A0 l0.length c0, .slice A1 l1.length c1] w fun e w' => e = .returned (.bool r) ∧ Drawn0 w w' := by
 have HR0 := Aside0.mk hr0
 have HC0 := Aside0.mk hc0
 clear hr0 hc0
 have HR1 := Aside0.mk hr1
 have HC1 := Aside0.mk hc1
 clear hr1 hc1
 have H : (if (l0.length : Int) = (l1.length : Int) then (postroomref11_sameInts.l0 k l0 l1 0) else (some false)) = some r := h
 clear h
 by_cases c3 : (l0.length : Int) = (l1.length : Int)
 case neg =>
  rw [if_neg c3] at H
  have bl : ((l0.length : Int) == (l1.length : Int)) = false := beq_eq_false_iff_ne.mpr c3
  have bk : ((l0.length : Int) != (l1.length : Int)) = true := bne_iff_ne.mpr c3
  have bj : (l0.length == l1.length) = false := by first | simpa using c3 | (simp at c3 ⊢; omega)
  obtain rfl := Option.some.inj H
  go_enter Tryd.func34, Tryd.ntmps34
  go_wp2
  repeat (go_quiet (fail); try go_wp2)
  go_ret
  exact ⟨by first | rfl | (simp; done) | (simp [*]; done), by repeat (first | exact Drawn0.refl _ | apply Drawn0.step)⟩

 rw [if_pos c3] at H
 have bl : ((l0.length : Int) == (l1.length : Int)) = true := beq_iff_eq.mpr c3
 have bk : ((l0.length : Int) != (l1.length : Int)) = false := bne_eq_false_iff_eq.mpr c3
 have bj : (l0.length == l1.length) = true := by first | simpa using c3 | (simp at c3 ⊢; omega)
 clear c3
 have H' := Aside0.mk H
 clear H
 go_enter Tryd.func34, Tryd.ntmps34
 go_wp2
 repeat (go_quiet (fail); try go_wp2)
 go_loopg [5] k (fun kq v5 w' => ∃ (ba : Int), v5 = .int .i64 ba ∧ Aside0 (postroomref11_sameInts.l0 kq l0 l1 ba = some r) ∧ Aside0 (kq ≤ k) ∧ Drawn0 w w')
 case atStart => exact ⟨(0), (by first | rfl | (simp; done) | (simp [*]; done)), H', ⟨Nat.le_refl _⟩, by repeat (first | exact Drawn0.refl _ | apply Drawn0.step)⟩
 case round =>
  clear H'
  (try clear c1); (try clear p2); (try clear c3); (try clear bl); (try clear bk); (try clear bj)
  obtain ⟨ba, rfl, HA, HK1, ⟨m1, rfl⟩⟩ := hrel
  cases gk with
  | zero => exact absurd HA.out (by simp [postroomref11_sameInts.l0])
  | succ k1 => ?_
  have H := HA.out
  clear HA
  simp only [postroomref11_sameInts.l0] at H
  by_cases c4 : ba < (l0.length : Int)
  case neg =>
   rw [if_neg c4] at H
   have bq : decide (ba < (l0.length : Int)) = false := decide_eq_false c4
   clear c4
   obtain rfl := Option.some.inj H
   go_wp2
   repeat (go_quiet (fail); try go_wp2)
   go_ret
   exact ⟨by first | rfl | (simp; done) | (simp [*]; done), by repeat (first | exact Drawn0.refl _ | apply Drawn0.step)⟩
  rw [if_pos c4] at H
  have bq : decide (ba < (l0.length : Int)) = true := decide_eq_true c4
  clear c4
  by_cases c5 : 0 ≤ ba
  case neg =>
   rw [if_neg c5] at H
   exact absurd H (by simp)
  rw [if_pos c5] at H
  have bu : decide (0 ≤ ba) = true := decide_eq_true c5
  clear c5
  by_cases c6 : ba < (l1.length : Int)
  case neg =>
   rw [if_neg c6] at H
   exact absurd H (by simp)
  rw [if_pos c6] at H
  have br : decide (ba < (l1.length : Int)) = true := decide_eq_true c6
  clear c6
  by_cases c7 : (rd l0 ba) = (rd l1 ba)
  case neg =>
   rw [if_neg c7] at H
   have bp : ((rd l0 ba) == (rd l1 ba)) = false := beq_eq_false_iff_ne.mpr c7
   have bo : ((rd l0 ba) != (rd l1 ba)) = true := bne_iff_ne.mpr c7
   obtain rfl := Option.some.inj H
   have be : 0 ≤ (ba : Int) := of_decide_eq_true (by first | (with_reducible assumption) | assumption)
   have bc : ba < (l0.length : Int) := of_decide_eq_true (by first | (with_reducible assumption) | assumption)
   obtain ⟨bn, bi, bg⟩ := Kd.at_int HR0.out ba be bc
   cases bi
   replace be := eq_true be
   replace bc := eq_true bc
   have bd : 0 ≤ (ba : Int) := of_decide_eq_true (by first | (with_reducible assumption) | assumption)
   have bb : ba < (l1.length : Int) := of_decide_eq_true (by first | (with_reducible assumption) | assumption)
   obtain ⟨bm, bh, bf⟩ := Kd.at_int HR1.out ba bd bb
   cases bh
   replace bd := eq_true bd
   replace bb := eq_true bb
   go_wp2
   repeat (go_quiet (fail); try go_wp2)
   go_ret
   exact ⟨by first | rfl | (simp; done) | (simp [*]; done), by repeat (first | exact Drawn0.refl _ | apply Drawn0.step)⟩
  rw [if_pos c7] at H
  have bp : ((rd l0 ba) == (rd l1 ba)) = true := beq_iff_eq.mpr c7
  have bo : ((rd l0 ba) != (rd l1 ba)) = false := bne_eq_false_iff_eq.mpr c7
  clear c7
  have H' := Aside0.mk H
  clear H
  have be : 0 ≤ (ba : Int) := of_decide_eq_true (by first | (with_reducible assumption) | assumption)
  have bc : ba < (l0.length : Int) := of_decide_eq_true (by first | (with_reducible assumption) | assumption)
  obtain ⟨bn, bi, bg⟩ := Kd.at_int HR0.out ba be bc
  cases bi
  replace be := eq_true be
  replace bc := eq_true bc
  have bd : 0 ≤ (ba : Int) := of_decide_eq_true (by first | (with_reducible assumption) | assumption)
  have bb : ba < (l1.length : Int) := of_decide_eq_true (by first | (with_reducible assumption) | assumption)
  obtain ⟨bm, bh, bf⟩ := Kd.at_int HR1.out ba bd bb
  cases bh
  replace bd := eq_true bd
  replace bb := eq_true bb
  go_wp2
  repeat (go_quiet (fail); try go_wp2)
  go_roundg k1
  case measure => have := HK1.out; omega
  case rel => exact ⟨(wrap64 (ba + 1)), (by first | rfl | (simp; done) | (simp [*]; done)), H', ⟨by have := HK1.out; omega⟩, by repeat (first | exact Drawn0.refl _ | apply Drawn0.step)⟩
end Go.Proofs.YtmbigoeldobaiaaDoor.XMrk
end
