/- Texts of this seat, in one. Conditions: those that each theorem names. -/
import Derived.Test.YthhmpjapnkilcaaDoorProg
import Derived.Below
import Derived.Deep.Draws
import Derived.Deep.AppendLies
import Derived.Maps.AppendAt
import Derived.OwnWalk
import Derived.Laws.BytesArg
import Derived.Laws.MakeOwn
import Derived.Laws.OwnMore
import Derived.Deep.OwnRows
import Derived.Tactics
import Derived.Lib.ConvBytes
import Derived.Laws.Slices
import Derived.WalkKit
import Derived.KernelRfl
import Derived.RowKit3
import Derived.Deep.LoopGhost
import Derived.Deep.QuietTactic
import Derived.BigQuiet
import Derived.WideLaws
import Derived.Deep.DeepCutAuto
import Derived.Deep.CutBlock
import Derived.Deep.RegionHeld3
import Derived.Laws.Rows
import Derived.Lib.AppendStr
import Derived.ArgAppend
import Derived.Laws.IdiomCopy
import Derived.OrdersHeld
import Derived.Laws.BitsLemmas
import Derived.RowKit
import Derived.Test.YthhmpjapnkilcaaDoorStrOps
import Derived.Test.YthhmpjapnkilcaaDoorWCore
import Derived.Test.YthhmpjapnkilcaaDoorWRest
section
/- What the functions of the translation answer, each as a plain Lean function, and that the code comes to it; for a law: its row. Conditions: none but those that each theorem names. Written by a program of this session (wip/xp). -/
namespace Go.Proofs.YthhmpjapnkilcaaDoor.XLdg
open Go.RowKit Go.Proofs.YthhmpjapnkilcaaDoorW.PrintWords Go.Proofs.YthhmpjapnkilcaaDoorW.PrintLast Go.Proofs.YthhmpjapnkilcaaDoorW.PrintMore
attribute [local go_sem] max2_int min2_int max_two min_two max_three min_three max_four min_four   -- for this text's walks alone
set_option linter.unusedVariables false
set_option linter.unusedSimpArgs false



def errW : Option Int → Value
  | none => .nilIface
  | some c => .iface 0 (.int .i64 c)
theorem info5 : (Tryd.prog.info? 5).map (fun i => (i.zero, i.size, i.bytes)) = some (some (.int .u8 0), 1, 1) := by kernel_rfl
theorem info24 : (Tryd.prog.info? 24).map (fun i => (i.zero, i.size, i.bytes)) = some (some (.int .u64 0), 1, 8) := by kernel_rfl
theorem info37 : (Tryd.prog.info? 37).map (fun i => (i.zero, i.size, i.bytes)) = some (some (.agg #[(.string ⟨#[]⟩), (.int .u64 0), (.int .u64 0), (.slice none 0 0), (.int .u64 0), (.int .u64 0), (.int .u64 0)]), 7, 80) := by kernel_rfl
theorem info84 : (Tryd.prog.info? 84).map (fun i => (i.zero, i.size, i.bytes)) = some (some (.agg #[(.string ⟨#[]⟩), (.int .u64 0), (.slice none 0 0)]), 3, 48) := by kernel_rfl
-- the values' own types
def rd_L2 (xs : List (List Int)) (i : Int) : (List Int) := xs.getD i.toNat ([] : List Int)
/-! #### struct type 37 -/
structure S37 where
  f0 : ByteArray
  f1 : Int
  f2 : Int
  f3 : (List Int)
  f4 : Int
  f5 : Int
  f6 : Int
def z37 : S37 := ⟨(⟨#[]⟩ : ByteArray), (0 : Int), (0 : Int), ([] : List Int), (0 : Int), (0 : Int), (0 : Int)⟩
def k37 : Kd S37 := Kd.iso (Kd.pair Kd.string (Kd.pair (Kd.int .u64) (Kd.pair (Kd.int .u64) (Kd.pair (Kd.slice 24 (Kd.int .u64)) (Kd.pair (Kd.int .u64) (Kd.pair (Kd.int .u64) (Kd.int .u64))))))) (fun x : S37 => (x.f0, x.f1, x.f2, x.f3, x.f4, x.f5, x.f6))
theorem k37_open {w : World} {x : S37} {cs : List Value} (h : k37.K w x cs) : ∃ A3 c3, cs = [.string x.f0, .int .u64 x.f1, .int .u64 x.f2, .slice A3 x.f3.length c3, .int .u64 x.f4, .int .u64 x.f5, .int .u64 x.f6] ∧ x.f3.length ≤ c3 ∧ (Kd.int .u64).C w A3 x.f3.length x.f3 := by
  obtain ⟨_, _, rfl, rfl, ⟨_, _, rfl, rfl, ⟨_, _, rfl, rfl, ⟨_, _, rfl, ⟨A3, c3, rfl, l3, g3⟩, ⟨_, _, rfl, rfl, ⟨_, _, rfl, rfl, rfl⟩⟩⟩⟩⟩⟩ := h
  exact ⟨A3, c3, rfl, l3, g3⟩
theorem k37_mk (w : World) (x : S37) {A3 : Option Addr} {c3 : Nat} (l3 : x.f3.length ≤ c3) (g3 : (Kd.int .u64).C w A3 x.f3.length x.f3) : k37.K w x [.string x.f0, .int .u64 x.f1, .int .u64 x.f2, .slice A3 x.f3.length c3, .int .u64 x.f4, .int .u64 x.f5, .int .u64 x.f6] := ⟨[.string x.f0], [.int .u64 x.f1, .int .u64 x.f2, .slice A3 x.f3.length c3, .int .u64 x.f4, .int .u64 x.f5, .int .u64 x.f6], rfl, rfl, ⟨[.int .u64 x.f1], [.int .u64 x.f2, .slice A3 x.f3.length c3, .int .u64 x.f4, .int .u64 x.f5, .int .u64 x.f6], rfl, rfl, ⟨[.int .u64 x.f2], [.slice A3 x.f3.length c3, .int .u64 x.f4, .int .u64 x.f5, .int .u64 x.f6], rfl, rfl, ⟨[.slice A3 x.f3.length c3], [.int .u64 x.f4, .int .u64 x.f5, .int .u64 x.f6], rfl, ⟨A3, c3, rfl, l3, g3⟩, ⟨[.int .u64 x.f4], [.int .u64 x.f5, .int .u64 x.f6], rfl, rfl, ⟨[.int .u64 x.f5], [.int .u64 x.f6], rfl, rfl, rfl⟩⟩⟩⟩⟩⟩
theorem k37_openF {W : World} {ok : Nat → Prop} {x : S37} {cs : List Value} (h : Kd.FK k37 W ok x cs) : ∃ A3 c3, cs = [.string x.f0, .int .u64 x.f1, .int .u64 x.f2, .slice A3 x.f3.length c3, .int .u64 x.f4, .int .u64 x.f5, .int .u64 x.f6] ∧ x.f3.length ≤ c3 ∧ Kd.F (Kd.int .u64) W ok A3 x.f3.length x.f3 := by
  obtain ⟨A3, c3, rfl, l3, _⟩ := k37_open (Kd.FK_now h)
  exact ⟨A3, c3, rfl, l3, (fun W' hW => by obtain ⟨A3_, c3_, he, l3_, g3_⟩ := k37_open (h W' hW); injection (Option.some.inj (show some (Value.slice A3 x.f3.length c3) = some (Value.slice A3_ x.f3.length c3_) from congrArg (fun l => l[3]?) he)) with ha_ _ _; rw [ha_]; exact g3_)⟩
theorem k37_mkF (W : World) (ok : Nat → Prop) (x : S37) {A3 : Option Addr} {c3 : Nat} (l3 : x.f3.length ≤ c3) (g3 : Kd.F (Kd.int .u64) W ok A3 x.f3.length x.f3) : Kd.FK k37 W ok x [.string x.f0, .int .u64 x.f1, .int .u64 x.f2, .slice A3 x.f3.length c3, .int .u64 x.f4, .int .u64 x.f5, .int .u64 x.f6] := fun W2 hW => k37_mk W2 x l3 (g3 W2 hW)
def rd_T37 (xs : List S37) (i : Int) : S37 := xs.getD i.toNat z37
theorem at_T37 {w : World} {A : Option Addr} {n : Nat} {xs : List S37} (h : Kd.C k37 w A n xs) (i : Int) (h0 : 0 ≤ i) (h1 : i < n) : ∃ ad A3 c3, A = some ad ∧ w.cell? (ad.add (i.toNat * 7)) = some (.string (rd_T37 xs i).f0) ∧ w.cell? ⟨(ad.add (i.toNat * 7)).block, (ad.add (i.toNat * 7)).off + 1, none⟩ = some (.int .u64 (rd_T37 xs i).f1) ∧ w.cell? ⟨(ad.add (i.toNat * 7)).block, (ad.add (i.toNat * 7)).off + 2, none⟩ = some (.int .u64 (rd_T37 xs i).f2) ∧ w.cell? ⟨(ad.add (i.toNat * 7)).block, (ad.add (i.toNat * 7)).off + 3, none⟩ = some (.slice A3 (rd_T37 xs i).f3.length c3) ∧ w.cell? ⟨(ad.add (i.toNat * 7)).block, (ad.add (i.toNat * 7)).off + 4, none⟩ = some (.int .u64 (rd_T37 xs i).f4) ∧ w.cell? ⟨(ad.add (i.toNat * 7)).block, (ad.add (i.toNat * 7)).off + 5, none⟩ = some (.int .u64 (rd_T37 xs i).f5) ∧ w.cell? ⟨(ad.add (i.toNat * 7)).block, (ad.add (i.toNat * 7)).off + 6, none⟩ = some (.int .u64 (rd_T37 xs i).f6) ∧ (rd_T37 xs i).f3.length ≤ c3 ∧ (Kd.int .u64).C w A3 (rd_T37 xs i).f3.length (rd_T37 xs i).f3 := by
  obtain ⟨ad, c, e, _, hK, hc0⟩ := Kd.C_get h z37 i h0 h1
  have hc : ∀ j u, c[j]? = some u → w.cell? (ad.add (i.toNat * 7 + j)) = some u := hc0
  obtain ⟨A3, c3, rfl, l3, g3⟩ := k37_open hK
  exact ⟨ad, A3, c3, e, hc 0 _ rfl, by rw [← add_field _ _ 1 (by omega)]; exact hc 1 _ rfl, by rw [← add_field _ _ 2 (by omega)]; exact hc 2 _ rfl, by rw [← add_field _ _ 3 (by omega)]; exact hc 3 _ rfl, by rw [← add_field _ _ 4 (by omega)]; exact hc 4 _ rfl, by rw [← add_field _ _ 5 (by omega)]; exact hc 5 _ rfl, by rw [← add_field _ _ 6 (by omega)]; exact hc 6 _ rfl, l3, g3⟩

def rd_L4 (xs : List (List S37)) (i : Int) : (List S37) := xs.getD i.toNat ([] : List S37)
/-! #### struct type 27 -/
structure S27 where
  f0 : Int
  f1 : Int
  f2 : (List S37)
def z27 : S27 := ⟨(0 : Int), (0 : Int), ([] : List S37)⟩
def k27 : Kd S27 := Kd.iso (Kd.pair (Kd.int .u64) (Kd.pair (Kd.int .u64) (Kd.slice 37 k37))) (fun x : S27 => (x.f0, x.f1, x.f2))
def rd_T27 (xs : List S27) (i : Int) : S27 := xs.getD i.toNat z27
def rd_L9 (xs : List (List Int)) (i : Int) : (List Int) := xs.getD i.toNat ([] : List Int)
/-! #### struct type 84 -/
structure S84 where
  f0 : ByteArray
  f1 : Int
  f2 : (List Int)
def z84 : S84 := ⟨(⟨#[]⟩ : ByteArray), (0 : Int), ([] : List Int)⟩
def k84 : Kd S84 := Kd.iso (Kd.pair Kd.string (Kd.pair (Kd.int .u64) (Kd.slice 5 (Kd.int .u8)))) (fun x : S84 => (x.f0, x.f1, x.f2))
theorem k84_open {w : World} {x : S84} {cs : List Value} (h : k84.K w x cs) : ∃ A2 c2, cs = [.string x.f0, .int .u64 x.f1, .slice A2 x.f2.length c2] ∧ x.f2.length ≤ c2 ∧ (Kd.int .u8).C w A2 x.f2.length x.f2 := by
  obtain ⟨_, _, rfl, rfl, ⟨_, _, rfl, rfl, ⟨A2, c2, rfl, l2, g2⟩⟩⟩ := h
  exact ⟨A2, c2, rfl, l2, g2⟩
theorem k84_openM {w : World} {base : Nat} {ok : Nat → Prop} {x : S84} {cs : List Value} (h : k84.M w base ok x cs) : ∃ v2, cs = [.string x.f0, .int .u64 x.f1, v2] ∧ (Kd.int .u8).R 5 w base ok v2 x.f2 := by
  obtain ⟨_, _, rfl, rfl, ⟨_, _, rfl, rfl, ⟨v2, rfl, g2⟩⟩⟩ := h
  exact ⟨v2, rfl, g2⟩
theorem k84_mkM (w : World) (base : Nat) (ok : Nat → Prop) (x : S84) {v2 : Value} (g2 : (Kd.int .u8).R 5 w base ok v2 x.f2) : k84.M w base ok x [.string x.f0, .int .u64 x.f1, v2] := ⟨[.string x.f0], [.int .u64 x.f1, v2], rfl, rfl, ⟨[.int .u64 x.f1], [v2], rfl, rfl, ⟨v2, rfl, g2⟩⟩⟩
def rd_T84 (xs : List S84) (i : Int) : S84 := xs.getD i.toNat z84
theorem at_T84 {w : World} {A : Option Addr} {n : Nat} {xs : List S84} (h : Kd.C k84 w A n xs) (i : Int) (h0 : 0 ≤ i) (h1 : i < n) : ∃ ad A2 c2, A = some ad ∧ w.cell? (ad.add (i.toNat * 3)) = some (.string (rd_T84 xs i).f0) ∧ w.cell? ⟨(ad.add (i.toNat * 3)).block, (ad.add (i.toNat * 3)).off + 1, none⟩ = some (.int .u64 (rd_T84 xs i).f1) ∧ w.cell? ⟨(ad.add (i.toNat * 3)).block, (ad.add (i.toNat * 3)).off + 2, none⟩ = some (.slice A2 (rd_T84 xs i).f2.length c2) ∧ (rd_T84 xs i).f2.length ≤ c2 ∧ (Kd.int .u8).C w A2 (rd_T84 xs i).f2.length (rd_T84 xs i).f2 := by
  obtain ⟨ad, c, e, _, hK, hc0⟩ := Kd.C_get h z84 i h0 h1
  have hc : ∀ j u, c[j]? = some u → w.cell? (ad.add (i.toNat * 3 + j)) = some u := hc0
  obtain ⟨A2, c2, rfl, l2, g2⟩ := k84_open hK
  exact ⟨ad, A2, c2, e, hc 0 _ rfl, by rw [← add_field _ _ 1 (by omega)]; exact hc 1 _ rfl, by rw [← add_field _ _ 2 (by omega)]; exact hc 2 _ rfl, l2, g2⟩

def rd_L11 (xs : List (List S84)) (i : Int) : (List S84) := xs.getD i.toNat ([] : List S84)
/-! #### struct type 57 -/
structure S57 where
  f0 : Int
  f1 : Int
  f2 : (List S84)
def z57 : S57 := ⟨(0 : Int), (0 : Int), ([] : List S84)⟩
def k57 : Kd S57 := Kd.iso (Kd.pair (Kd.int .u64) (Kd.pair (Kd.int .u64) (Kd.slice 84 k84))) (fun x : S57 => (x.f0, x.f1, x.f2))
def rd_T57 (xs : List S57) (i : Int) : S57 := xs.getD i.toNat z57
/-! #### struct type 43 -/
structure S43 where
  f0 : Int
  f1 : Int
  f2 : Int
  f3 : Int
def z43 : S43 := ⟨(0 : Int), (0 : Int), (0 : Int), (0 : Int)⟩
def k43 : Kd S43 := Kd.iso (Kd.pair (Kd.int .i64) (Kd.pair (Kd.int .i64) (Kd.pair (Kd.int .i64) (Kd.int .i64)))) (fun x : S43 => (x.f0, x.f1, x.f2, x.f3))
theorem k43_open {w : World} {x : S43} {cs : List Value} (h : k43.K w x cs) : cs = [.int .i64 x.f0, .int .i64 x.f1, .int .i64 x.f2, .int .i64 x.f3] := by
  obtain ⟨_, _, rfl, rfl, ⟨_, _, rfl, rfl, ⟨_, _, rfl, rfl, rfl⟩⟩⟩ := h
  exact rfl
def rd_T43 (xs : List S43) (i : Int) : S43 := xs.getD i.toNat z43
theorem at_T43 {w : World} {A : Option Addr} {n : Nat} {xs : List S43} (h : Kd.C k43 w A n xs) (i : Int) (h0 : 0 ≤ i) (h1 : i < n) : ∃ ad , A = some ad ∧ w.cell? (ad.add (i.toNat * 4)) = some (.int .i64 (rd_T43 xs i).f0) ∧ w.cell? ⟨(ad.add (i.toNat * 4)).block, (ad.add (i.toNat * 4)).off + 1, none⟩ = some (.int .i64 (rd_T43 xs i).f1) ∧ w.cell? ⟨(ad.add (i.toNat * 4)).block, (ad.add (i.toNat * 4)).off + 2, none⟩ = some (.int .i64 (rd_T43 xs i).f2) ∧ w.cell? ⟨(ad.add (i.toNat * 4)).block, (ad.add (i.toNat * 4)).off + 3, none⟩ = some (.int .i64 (rd_T43 xs i).f3) := by
  obtain ⟨ad, c, e, _, hK, hc0⟩ := Kd.C_get h z43 i h0 h1
  have hc : ∀ j u, c[j]? = some u → w.cell? (ad.add (i.toNat * 4 + j)) = some u := hc0
  obtain rfl := k43_open hK
  exact ⟨ad, e, hc 0 _ rfl, by rw [← add_field _ _ 1 (by omega)]; exact hc 1 _ rfl, by rw [← add_field _ _ 2 (by omega)]; exact hc 2 _ rfl, by rw [← add_field _ _ 3 (by omega)]; exact hc 3 _ rfl⟩

abbrev Tt : Bool := true
abbrev Ff : Bool := false
theorem pp_ {P : Program} {ops : Array Oper} {Q : Exit → Act → World → Prop} {md : Region.Mode} {S : World → Prop} {ds : List Nat} {T : Bool × List (List Nat × List Nat)} {oi : Oper} {v : Value} {fuel : Nat} {l l' : Array Bool} {a a' : Act} {w : World} (i : Nat) (N : Option Tmp) (hT : rtab md ops = T)
    (h : wpAnyLast P md ops Q S ds fuel l' a' w) (hl : l.setIfInBounds i true = l' := by simp only [List.setIfInBounds_toArray, List.set_cons_zero, List.set_cons_succ]; rfl) (hi : ops[i]? = some oi := by rfl) (hN : oi.dst = N := by rfl) (hc : anyT T l.toList l'.toList i = true := by kernel_rfl) (hq : ∀ c a w, Q (.panic c) (a.put oi.dst v) w → Q (.panic c) a w := by exact fun _ _ _ h => h)
    (hw : Region.wanted oi (yielded ops a.tmps) = true := by rfl) (hy : ∀ w, (execOp a.eval oi).run P w = .ok (.value v) w := by intro w'; go_simp; with_reducible rfl) (ha : a.put N v = a' := by simp only [Act.put, List.setIfInBounds_toArray, List.set_cons_zero, List.set_cons_succ, i64_w, i32_w]; rfl) : wpAnyLast P md ops Q S ds (fuel + 1) l a w :=
  pure_ l' hi hN (any_of hT hc) hq (Or.inl ⟨hw, hy⟩) ha h
theorem pu_ {P : Program} {ops : Array Oper} {Q : Exit → Act → World → Prop} {md : Region.Mode} {S : World → Prop} {ds : List Nat} {T : Bool × List (List Nat × List Nat)} {oi : Oper} {fuel : Nat} {l l' : Array Bool} {a a' : Act} {w : World} (i : Nat) (N : Option Tmp) (hT : rtab md ops = T)
    (h : wpAnyLast P md ops Q S ds fuel l' a' w) (hl : l.setIfInBounds i true = l' := by simp only [List.setIfInBounds_toArray, List.set_cons_zero, List.set_cons_succ]; rfl) (hi : ops[i]? = some oi := by rfl) (hN : oi.dst = N := by rfl) (hc : anyT T l.toList l'.toList i = true := by kernel_rfl) (hq : ∀ c a w, Q (.panic c) (a.put oi.dst undef) w → Q (.panic c) a w := by exact fun _ _ _ h => h)
    (hw : Region.wanted oi (yielded ops a.tmps) = false := by rfl) (ha : a.put N undef = a' := by simp only [Act.put, List.setIfInBounds_toArray, List.set_cons_zero, List.set_cons_succ, i64_w, i32_w]; rfl) : wpAnyLast P md ops Q S ds (fuel + 1) l a w :=
  pure_ l' hi hN (any_of hT hc) hq (Or.inr ⟨hw, rfl⟩) ha h
theorem na_ {P : Program} {ops : Array Oper} {Q : Exit → Act → World → Prop} {md : Region.Mode} {S : World → Prop} {ds : List Nat} {fuel : Nat} {l : Array Bool} {a a' : Act} {w : World} {v : Value} (n : Nat) (h : wpAnyLast P md ops Q S ds fuel l a' w) (ha : a.put (some n) v = a' := by simp only [Act.put, List.setIfInBounds_toArray, List.set_cons_zero, List.set_cons_succ, i64_w, i32_w]; rfl) : wpAnyLast P md ops Q S ds fuel l (a.put (some n) v) w := norm_ ha h
theorem nb_ {P : Program} {ops : Array Oper} {Q : Exit → Act → World → Prop} {md : Region.Mode} {S : World → Prop} {ds : List Nat} {fuel : Nat} {l : Array Bool} {a a' : Act} {w : World} (h : wpAnyLast P md ops Q S ds fuel l a' w) (ha : a = a' := by simp only [putAll, Act.put, List.setIfInBounds_toArray, List.set_cons_zero, List.set_cons_succ]; rfl) : wpAnyLast P md ops Q S ds fuel l a w := norm_ ha h
end Go.Proofs.YthhmpjapnkilcaaDoor.XLdg
end
section
/- What the functions of the translation answer, each as a plain Lean function, and that the code comes to it; for a law: its row. Conditions: none but those that each theorem names. Written by a program of this session (wip/xp). -/
namespace Go.Proofs.YthhmpjapnkilcaaDoor.XLdg
open Go.RowKit Go.Proofs.YthhmpjapnkilcaaDoorW.PrintWords Go.Proofs.YthhmpjapnkilcaaDoorW.PrintLast Go.Proofs.YthhmpjapnkilcaaDoorW.PrintMore
attribute [local go_sem] max2_int min2_int max_two min_two max_three min_three max_four min_four   -- for this text's walks alone
theorem cx12_bc3 {w : World} {g : Nat} {t : TypeId} {x0 x1 x2 : Value} (h : w.heap[g]? = some (.cells #[x0, x1, x2] t (0, 0))) : w.cell? ⟨g, 0, none⟩ = some x0 ∧ w.cell? ⟨g, 1, none⟩ = some x1 ∧ w.cell? ⟨g, 2, none⟩ = some x2 ∧ w.frozen? ⟨g, 0, none⟩ = false ∧ w.frozen? ⟨g, 1, none⟩ = false ∧ w.frozen? ⟨g, 2, none⟩ = false :=
 ⟨(blk_cell h 0).trans rfl, (blk_cell h 1).trans rfl, (blk_cell h 2).trans rfl, blk_frozen h 0, blk_frozen h 1, blk_frozen h 2⟩
theorem zx12_7 {p : Prop} (h : p := by first | (with_reducible assumption) | assumption) : p := h
theorem zx12_1 {p : Prop} (h : p := by (with_reducible repeat (first | refine blk_drewN ?_ _ | refine blk_drew ?_ | refine blk_alloc ?_ _)); exact bd.out) : p := h
theorem zx12_2 {p : Prop} (h : p := by (with_reducible repeat (first | refine blk_drewN ?_ _ | refine blk_drew ?_ | refine blk_alloc ?_ _)); exact bz.out) : p := h
theorem zx12_6 {p : Prop} (h : p := by (with_reducible repeat (first | refine blk_drewN ?_ _ | refine blk_drew ?_ | refine blk_alloc ?_ _)); exact bc.out) : p := h
theorem zx12_5 {p : Prop} (h : p := by repeat (first | (with_reducible first | exact HB.out | apply below_alloc | apply pw_below_drewN | apply below_drew1) | exact HB.out)) : p := h
theorem zx12_4 {p : Prop} (h : p := by repeat (first | (with_reducible first | exact HB.out | apply below_alloc | apply pw_below_drewN | apply below_drew1 | refine below_set ?_ bV.out) | exact HB.out)) : p := h
theorem zx12_3 {p : Prop} (h : p := by repeat (first | (with_reducible first | exact HB.out | apply below_alloc | apply pw_below_drewN | apply below_drew1 | refine below_set ?_ bV.out | refine below_set ?_ b2.out) | exact HB.out)) : p := h
theorem zx12_0 {p : Prop} (h : p := by repeat (first | (with_reducible first | exact HB.out | apply below_alloc | apply pw_below_drewN | apply below_drew1 | refine below_set ?_ bV.out | refine below_set ?_ b2.out | refine below_set ?_ df.out) | exact HB.out)) : p := h
set_option linter.unusedVariables false
set_option linter.unusedSimpArgs false

/-! ### postroomref10_copied: function 53 -/
def postroomref10_copied.l0 : Nat → Int → Int → Int → List (S84) → Int → Int → List (S84) → Option (Int × Int × (List (S84)))
 | 0, _, _, _, _, _, _, _ => none
 | k + 1, x4, dl, dk, bE, b6, b5, bW => if x4 < (bE.length : Int) then (if 0 ≤ x4 then ((some (([] : List Int) : List Int)).bind fun bX => (if bX.length + ((rd_T84 bE x4).f2).length < 140737488355328 then (if bW.length < 2932031007402 then (postroomref10_copied.l0 k (wrap64 (x4 + 1)) dl dk bE b6 b5 (bW ++ [(⟨(rd_T84 bE x4).f0, (rd_T84 bE x4).f1, (bX ++ ((rd_T84 bE x4).f2))⟩ : S84)])) else (none)) else (none))) else (none)) else (some (b6, b5, bW))
def postroomref10_copied.f (k : Nat) (bg : Int) (bh : Int) (be : List (S84)) : Option (Int × Int × (List (S84))) := postroomref10_copied.l0 k 0 bg bh be bg bh ([] : List (S84))
def postroomref10_copied.T5 : Bool × List (List Nat × List Nat) := (true, [([], []), ([0], [0]), ([], []), ([2], [2]), ([], []), ([3, 4], [3, 4]), ([5], [5]), ([6], [6]), ([], []), ([8], [8]), ([], []), ([9, 10], [9, 10]), ([11], [11]), ([12], [12]), ([], []), ([], []), ([15], [15]), ([], []), ([16, 17], [16, 17]), ([18], [18]), ([19], [19]), ([14, 20], [14, 20]), ([7, 13, 21], [7, 13, 21]), ([22], [22]), ([1, 23, 21], [1, 23]), ([0, 1, 2, 3, 4, 5, 6, 7, 8, 9, 10, 11, 12, 13, 14, 15, 16, 17, 18, 19, 20, 21, 22, 23, 24], []), ([25, 24, 24, 0, 1, 2, 3, 4, 5, 6, 7, 8, 9, 10, 11, 12, 13, 14, 15, 16, 17, 18, 19, 20, 21, 22, 23, 24], [24, 25])])
def postroomref10_copied.B5 : List Nat := [0, 1, 0, 4, 0, 28, 60, 124, 0, 256, 0, 1792, 3840, 7936, 0, 0, 32768, 0, 229376, 491520, 1015808, 2080768, 4194300, 8388604, 16777215, 33554431, 67108863]
theorem postroomref10_copied.tab5 : rtab .any (opsOf Tryd.f53 5) = postroomref10_copied.T5 := by kernel_rfl
theorem postroomref10_copied.bits5 : waitsOk postroomref10_copied.T5.2 postroomref10_copied.B5 = true := by kernel_rfl
set_option maxHeartbeats 8000000 in
set_option maxRecDepth 100000 in
theorem postroomref10_copied.calls (k : Nat) (bg : Int) (bh : Int) (bU : Option Addr) (bJ : Nat) (be : List (S84)) (r1 : Int) (r2 : Int) (r3 : List (S84)) (w : World) (dp : Kd.C k84 w bU be.length be) (dq : be.length ≤ bJ) (h : postroomref10_copied.f k bg bh be = some (r1, r2, r3)) :
  Calls Tryd.prog 53 #[.agg #[.int .u64 bg, .int .u64 bh, .slice bU be.length bJ]] w fun e w' => ∃ v2_ : Value, e = .returned (.agg #[.int .u64 r1, .int .u64 r2, v2_]) ∧ Kd.S k84 84 w' w.heap.size (fun _ => True) v2_ r3 ∧ Below w.heap.size w w' := by
 have ha := Tryd.underlying57
 have gZ := Tryd.underlying84
 have di := Aside0.mk dp
 have gT := Aside0.mk dq
 clear dp dq
 have HB := Aside0.mk (Below.refl w.heap.size w)
 have H : (postroomref10_copied.l0 k 0 bg bh be bg bh ([] : List (S84))) = some (r1, r2, r3) := h
 clear h
 have H' := Aside0.mk H
 clear H
 go_enter Tryd.func53, Tryd.ntmps53
 go_wp2_with (first | ((with_reducible refine gate_dst (N := 1) rfl ?_); refine box_event ?hg (N := 1) ?hd (cs := #[.int .u64 bg, .int .u64 bh, .slice bU be.length bJ]) (t := 57) ?hr ?_; (case hd => rfl); (case hg => rfl); (case hr => first | (go_simp; done) | (go_simp; rfl)); intro bi hg w2 hbox hb; have bd := Aside0.mk (hbox); have gW := Aside0.mk ((by rw [hg]; exact (below_size zx12_5) : w.heap.size ≤ bi)); have bV := Aside0.mk ((by rw [hg]; exact (below_size zx12_5) : w.heap.size ≤ bi)); replace HB := Aside0.mk (below_step zx12_5 hb); clear hb hbox hg) | ((with_reducible refine gate_dst (N := 2) rfl ?_); refine box_event ?hg (N := 2) ?hd (cs := #[.int .u64 0, .int .u64 0, .slice none 0 0]) (t := 57) ?hr ?_; (case hd => rfl); (case hg => rfl); (case hr => first | (go_simp; done) | (go_simp; rfl)); intro bA hg w3 hbox hb; have bz := Aside0.mk (hbox); have gV := Aside0.mk ((by rw [hg]; exact (below_size zx12_4) : w.heap.size ≤ bA)); have b2 := Aside0.mk ((by rw [hg]; exact (below_size zx12_4) : w.heap.size ≤ bA)); replace HB := Aside0.mk (below_step zx12_4 hb); have bS := Aside0.mk ((by rw [hg]; exact Nat.ne_of_lt (blk_lt (g := bi) (o := .cells #[.int .u64 bg, .int .u64 bh, .slice bU be.length bJ] 57 (0, 0)) zx12_1) : bi ≠ bA)); have bR := Aside0.mk ((by rw [hg]; exact Nat.ne_of_gt (blk_lt (g := bi) (o := .cells #[.int .u64 bg, .int .u64 bh, .slice bU be.length bJ] 57 (0, 0)) zx12_1) : bA ≠ bi)); replace bd := Aside0.mk (blk_below (g := bi) (o := .cells #[.int .u64 bg, .int .u64 bh, .slice bU be.length bJ] 57 (0, 0)) zx12_1 hb); clear hb hbox hg; have hl := bS.out; have hh := bR.out; have dL : w3.cell? ⟨bi, 0, none⟩ = some (.int .u64 bg) := (blk_cell bd.out 0).trans rfl; have dK : w3.cell? ⟨bi, 1, none⟩ = some (.int .u64 bh) := (blk_cell bd.out 1).trans rfl; have dJ : w3.cell? ⟨bi, 2, none⟩ = some (.slice bU be.length bJ) := (blk_cell bd.out 2).trans rfl; have dF := blk_frozen bd.out 0; have dE := blk_frozen bd.out 1; have dD := blk_frozen bd.out 2) | ((with_reducible refine gate_dst (N := 3) rfl ?_); refine box_event ?hg (N := 3) ?hd (cs := #[.int .u64 0, .int .u64 0, .slice none 0 0]) (t := 57) ?hr ?_; (case hd => rfl); (case hg => rfl); (case hr => first | (go_simp; done) | (go_simp; rfl)); intro bx hg w6 hbox hb; have bc := Aside0.mk (hbox); have gU := Aside0.mk ((by rw [hg]; exact (below_size zx12_3) : w.heap.size ≤ bx)); have df := Aside0.mk ((by rw [hg]; exact (below_size zx12_3) : w.heap.size ≤ bx)); replace HB := Aside0.mk (below_step zx12_3 hb); have bB := Aside0.mk ((by rw [hg]; exact Nat.ne_of_lt (blk_lt (g := bi) (o := .cells #[.int .u64 bg, .int .u64 bh, .slice bU be.length bJ] 57 (0, 0)) zx12_1) : bi ≠ bx)); have bI := Aside0.mk ((by rw [hg]; exact Nat.ne_of_gt (blk_lt (g := bi) (o := .cells #[.int .u64 bg, .int .u64 bh, .slice bU be.length bJ] 57 (0, 0)) zx12_1) : bx ≠ bi)); replace bd := Aside0.mk (blk_below (g := bi) (o := .cells #[.int .u64 bg, .int .u64 bh, .slice bU be.length bJ] 57 (0, 0)) zx12_1 hb); have bC := Aside0.mk ((by rw [hg]; exact Nat.ne_of_lt (blk_lt (g := bA) (o := .cells #[.int .u64 0, .int .u64 0, .slice none 0 0] 57 (0, 0)) zx12_2) : bA ≠ bx)); have bQ := Aside0.mk ((by rw [hg]; exact Nat.ne_of_gt (blk_lt (g := bA) (o := .cells #[.int .u64 0, .int .u64 0, .slice none 0 0] 57 (0, 0)) zx12_2) : bx ≠ bA)); replace bz := Aside0.mk (blk_below (g := bA) (o := .cells #[.int .u64 0, .int .u64 0, .slice none 0 0] 57 (0, 0)) zx12_2 hb); clear hb hbox hg; have hj := bI.out; have hf := bB.out; have hi := bQ.out; have he := bC.out; have dI : w6.cell? ⟨bx, 0, none⟩ = some (.int .u64 0) := (blk_cell bc.out 0).trans rfl; have dH : w6.cell? ⟨bx, 1, none⟩ = some (.int .u64 0) := (blk_cell bc.out 1).trans rfl; have dG : w6.cell? ⟨bx, 2, none⟩ = some (.slice none 0 0) := (blk_cell bc.out 2).trans rfl; have dC := blk_frozen bc.out 0; have dB := blk_frozen bc.out 1; have dA := blk_frozen bc.out 2))
 go_loopg [4] k (fun kq v4 w' => ∃ (ba : Int) (bf : List (S84)) (bk : Value), v4 = .int .i64 ba ∧ Aside0 (postroomref10_copied.l0 kq ba bg bh be bg bh bf = some (r1, r2, r3)) ∧ Aside0 (kq ≤ k) ∧ Aside0 (Kd.S k84 84 w' w.heap.size (fun _ => True) bk bf) ∧ Aside0 (w'.heap[bi]? = some (.cells #[.int .u64 bg, .int .u64 bh, (.slice bU be.length bJ)] 57 (0, 0))) ∧ Aside0 (w'.heap[bA]? = some (.cells #[.int .u64 0, .int .u64 0, (.slice none 0 0)] 57 (0, 0))) ∧ Aside0 (w'.heap[bx]? = some (.cells #[.int .u64 bg, .int .u64 bh, bk] 57 (0, 0))) ∧ Aside0 (Below w.heap.size w w'))
 case atStart => exact ⟨(0), (([] : List (S84))), (.slice none 0 0), (by first | rfl | (simp; done) | (simp [*]; done)), H', ⟨Nat.le_refl _⟩, ⟨by first | exact Kd.S_nil _ _ _ _ _ | exact Kd.N_nil _ _ _ _ _ | exact Kd.V_nil _ _ _ _ _ | exact Kd.Q_nil _ _ _ _ _ | exact Kd.R_nil _ _ _ _ _⟩, ⟨by (iterate 3 ((with_reducible repeat (first | refine blk_drewN ?_ _ | refine blk_drew ?_ | refine blk_alloc ?_ _)); refine blk_far ?_ bB.out _)); (with_reducible repeat (first | refine blk_drewN ?_ _ | refine blk_drew ?_ | refine blk_alloc ?_ _)); exact bd.out⟩, ⟨by (iterate 3 ((with_reducible repeat (first | refine blk_drewN ?_ _ | refine blk_drew ?_ | refine blk_alloc ?_ _)); refine blk_far ?_ bC.out _)); (with_reducible repeat (first | refine blk_drewN ?_ _ | refine blk_drew ?_ | refine blk_alloc ?_ _)); exact bz.out⟩, ⟨by (with_reducible repeat (first | refine blk_drewN ?_ _ | refine blk_drew ?_ | refine blk_alloc ?_ _)); refine blk_put (cs := #[.int .u64 bg, .int .u64 bh, .slice none 0 0]) ?_ 2 _ rfl; (with_reducible repeat (first | refine blk_drewN ?_ _ | refine blk_drew ?_ | refine blk_alloc ?_ _)); refine blk_put (cs := #[.int .u64 bg, .int .u64 0, .slice none 0 0]) ?_ 1 _ rfl; (with_reducible repeat (first | refine blk_drewN ?_ _ | refine blk_drew ?_ | refine blk_alloc ?_ _)); refine blk_put (cs := #[.int .u64 0, .int .u64 0, .slice none 0 0]) ?_ 0 _ rfl; (with_reducible repeat (first | refine blk_drewN ?_ _ | refine blk_drew ?_ | refine blk_alloc ?_ _)); exact bc.out⟩, ⟨by repeat (first | (with_reducible first | exact HB.out | apply below_alloc | apply pw_below_drewN | apply below_drew1 | refine below_set ?_ bV.out | refine below_set ?_ b2.out | refine below_set ?_ df.out) | exact HB.out)⟩⟩
 case round =>
  clear H'
  (try clear p2); (try clear c4); (try clear c5); (try clear c7); (try clear c8); (try clear dL); (try clear dK); (try clear dJ); (try clear dI); (try clear dH); (try clear dG); (try clear dF); (try clear dE); (try clear dD); (try clear dC); (try clear dB); (try clear dA)
  obtain ⟨ba, bf, bk, rfl, HA, HK1, bb, bd, bz, bc, HB⟩ := hrel
  cases gk with
  | zero => exact absurd HA.out (by simp [postroomref10_copied.l0])
  | succ k1 => ?_
  have H := HA.out
  clear HA
  simp only [postroomref10_copied.l0] at H
  by_cases c10 : ba < (be.length : Int)
  case neg =>
   rw [if_neg c10] at H
   have dR : decide (ba < (be.length : Int)) = false := decide_eq_false c10
   clear c10
   simp only [Option.some.injEq, Prod.mk.injEq] at H
   obtain ⟨rfl, rfl, rfl⟩ := H
   have gO := bS.out
   have gJ := bR.out
   have gN := bB.out
   have gI := bI.out
   obtain ⟨gr, gq, gp, ge, gc, gb⟩ := cx12_bc3 bd.out
   have gM := bQ.out
   have gH := bC.out
   obtain ⟨go, gn, gm, ga, d9, d8⟩ := cx12_bc3 bc.out
   obtain ⟨gl, gj, gi, d7, d6, d5⟩ := cx12_bc3 bz.out
   obtain ⟨dY, dO, gz⟩ := Kd.S_slice bb.out
   subst gz
   go_wp2
   refine bodyPost_ret (results_cell_row rfl _ _ bA 57 #[.int .u64 bg, .int .u64 bh, .slice dY bf.length dO] (0, 0) _ rfl (by (with_reducible repeat (first | refine blk_drewN ?_ _ | refine blk_drew ?_ | refine blk_alloc ?_ _)); refine blk_put (cs := #[.int .u64 bg, .int .u64 bh, .slice none 0 0]) ?_ 2 _ rfl; (with_reducible repeat (first | refine blk_drewN ?_ _ | refine blk_drew ?_ | refine blk_alloc ?_ _)); refine blk_put (cs := #[.int .u64 bg, .int .u64 0, .slice none 0 0]) ?_ 1 _ rfl; (with_reducible repeat (first | refine blk_drewN ?_ _ | refine blk_drew ?_ | refine blk_alloc ?_ _)); refine blk_put (cs := #[.int .u64 0, .int .u64 0, .slice none 0 0]) ?_ 0 _ rfl; (with_reducible repeat (first | refine blk_drewN ?_ _ | refine blk_drew ?_ | refine blk_alloc ?_ _)); exact bz.out) Tryd.underlying57 rfl (by kernel_rfl)) rfl ?_
   exact ⟨_, by first | rfl | (simp [errW_none, errW_some] <;> rfl) | (simp [*, errW_none, errW_some] <;> rfl), by (with_reducible repeat (first | apply Kd.S_alloc | apply Kd.S_drewN | apply Kd.S_drew)); exact Kd.S_mono (Kd.S_far (p := ⟨bA, 2, none⟩) (Kd.S_far (p := ⟨bA, 1, none⟩) (Kd.S_far (p := ⟨bA, 0, none⟩) (Kd.S_types bb.out bz.out (by decide)) (fun _ hk => hk.2) (.int .u64 bg)) (fun _ hk => hk.2) (.int .u64 bh)) (fun _ hk => hk.2) (.slice dY bf.length dO)) (fun _ hk => trivial), by repeat (first | (with_reducible first | exact HB.out | apply below_alloc | apply pw_below_drewN | apply below_drew1 | refine below_set ?_ bV.out | refine below_set ?_ b2.out | refine below_set ?_ df.out) | exact HB.out)⟩

  rw [if_pos c10] at H
  have dR : decide (ba < (be.length : Int)) = true := decide_eq_true c10
  clear c10
  by_cases c11 : 0 ≤ ba
  case neg =>
   rw [if_neg c11] at H
   exact absurd H (by simp)
  rw [if_pos c11] at H
  have gS : decide (0 ≤ ba) = true := decide_eq_true c11
  clear c11
  obtain ⟨bX, b0⟩ : ∃ y_ : List Int, y_ = (([] : List Int)) := ⟨_, rfl⟩
  replace H : (if bX.length + ((rd_T84 be ba).f2).length < 140737488355328 then (if bf.length < 2932031007402 then (postroomref10_copied.l0 k1 (wrap64 (ba + 1)) bg bh be bg bh (bf ++ [(⟨(rd_T84 be ba).f0, (rd_T84 be ba).f1, (bX ++ ((rd_T84 be ba).f2))⟩ : S84)])) else (none)) else (none)) = some (r1, r2, r3) := by first | (rw [b0]; with_reducible exact H) | (have H2_ := (Option.bind_some _ _).symm.trans H; rw [b0]; with_reducible exact H2_) | (have H2_ := (Option.bind_some _ _).symm.trans H; with_reducible exact H2_) | with_reducible exact H | (rw [b0]; exact H) | exact H
  have dr := Aside0.mk b0
  clear b0
  by_cases c12 : bX.length + ((rd_T84 be ba).f2).length < 140737488355328
  case neg =>
   rw [if_neg c12] at H
   exact absurd H (by simp)
  rw [if_pos c12] at H
  have dX := Aside0.mk c12
  clear c12
  obtain ⟨dg, bZ⟩ : ∃ y_ : List Int, y_ = (bX ++ ((rd_T84 be ba).f2)) := ⟨_, rfl⟩
  replace H : (if bf.length < 2932031007402 then (postroomref10_copied.l0 k1 (wrap64 (ba + 1)) bg bh be bg bh (bf ++ [(⟨(rd_T84 be ba).f0, (rd_T84 be ba).f1, dg⟩ : S84)])) else (none)) = some (r1, r2, r3) := by first | (rw [bZ]; with_reducible exact H) | (have H2_ := (Option.bind_some _ _).symm.trans H; rw [bZ]; with_reducible exact H2_) | (have H2_ := (Option.bind_some _ _).symm.trans H; with_reducible exact H2_) | with_reducible exact H | (rw [bZ]; exact H) | exact H
  have dV := Aside0.mk bZ
  clear bZ
  by_cases c13 : bf.length < 2932031007402
  case neg =>
   rw [if_neg c13] at H
   exact absurd H (by simp)
  rw [if_pos c13] at H
  have dW := Aside0.mk c13
  clear c13
  obtain ⟨dj, bY⟩ : ∃ y_ : List (S84), y_ = (bf ++ [(⟨(rd_T84 be ba).f0, (rd_T84 be ba).f1, dg⟩ : S84)]) := ⟨_, rfl⟩
  replace H : (postroomref10_copied.l0 k1 (wrap64 (ba + 1)) bg bh be bg bh dj) = some (r1, r2, r3) := by first | (rw [bY]; with_reducible exact H) | (have H2_ := (Option.bind_some _ _).symm.trans H; rw [bY]; with_reducible exact H2_) | (have H2_ := (Option.bind_some _ _).symm.trans H; with_reducible exact H2_) | with_reducible exact H | (rw [bY]; exact H) | exact H
  have dU := Aside0.mk bY
  clear bY
  have H' := Aside0.mk H
  clear H
  have gQ := bS.out
  have gL := bR.out
  have gP := bB.out
  have gK := bI.out
  obtain ⟨gu, gt, gs, gh, gg, gf⟩ := cx12_bc3 bd.out
  try go_wp2
  replace bb := Aside0.mk (Kd.S_drew bb.out)
  replace bd := Aside0.mk (blk_drew bd.out)
  replace bz := Aside0.mk (blk_drew bz.out)
  replace bc := Aside0.mk (blk_drew bc.out)
  replace HB := Aside0.mk (below_drew1 HB.out)
  have dz : 0 ≤ (ba : Int) := of_decide_eq_true zx12_7
  have dw : ba < (be.length : Int) := of_decide_eq_true zx12_7
  obtain ⟨bj, b4, b3, gC, bP, bO, bD, b9, dc⟩ := at_T84 di.out ba dz dw
  have br := bD
  have bu := bO
  have bw := bP
  cases gC
  replace bP := (HB.out.cell (World.block_lt_of_cell? w _ bP)).trans bP
  replace bO := (HB.out.cell (World.block_lt_of_cell? w _ bO)).trans bO
  replace bD := (HB.out.cell (World.block_lt_of_cell? w _ bD)).trans bD
  have dn := Aside0.mk dc
  have gx := Aside0.mk b9
  clear dc b9
  replace dz := eq_true dz
  replace dw := eq_true dw
  have dy : 0 ≤ (ba : Int) := of_decide_eq_true zx12_7
  have dv : ba < (be.length : Int) := of_decide_eq_true zx12_7
  obtain ⟨dT, gG, gE, gB, bN, bM, bH, b8, db⟩ := at_T84 di.out ba dy dv
  have bo := bH
  have bp := bM
  have bq := bN
  obtain rfl : bj = dT := (by injection gB)
  replace bN := (HB.out.cell (World.block_lt_of_cell? w _ bN)).trans bN
  replace bM := (HB.out.cell (World.block_lt_of_cell? w _ bM)).trans bM
  replace bH := (HB.out.cell (World.block_lt_of_cell? w _ bH)).trans bH
  have dm := Aside0.mk db
  have gw := Aside0.mk b8
  clear db b8
  replace dy := eq_true dy
  replace dv := eq_true dv
  have ea_ := Option.some.inj (bD.symm.trans bH)
  injection ea_ with ea_ en_ ec_
  subst ea_
  subst ec_
  clear en_
  have dx : 0 ≤ (ba : Int) := of_decide_eq_true zx12_7
  have du : ba < (be.length : Int) := of_decide_eq_true zx12_7
  obtain ⟨dS, gF, gD, gA, bL, bK, bG, b7, da⟩ := at_T84 di.out ba dx du
  have bl := bG
  have bm := bK
  have bn := bL
  obtain rfl : bj = dS := (by injection gA)
  replace bL := (HB.out.cell (World.block_lt_of_cell? w _ bL)).trans bL
  replace bK := (HB.out.cell (World.block_lt_of_cell? w _ bK)).trans bK
  replace bG := (HB.out.cell (World.block_lt_of_cell? w _ bG)).trans bG
  have dd := Aside0.mk da
  have gv := Aside0.mk b7
  clear da b7
  replace dx := eq_true dx
  replace du := eq_true du
  have ea_ := Option.some.inj (bD.symm.trans bG)
  injection ea_ with ea_ en_ ec_
  subst ea_
  subst ec_
  clear en_
  refine start_ (n := 27) (S := fun w' => w'.cell? ⟨bx, 0, none⟩ = some (.int .u64 bg) ∧ w'.cell? ⟨bx, 1, none⟩ = some (.int .u64 bh) ∧ w'.cell? ⟨bx, 2, none⟩ = some (bk) ∧ w'.cell? ⟨bi, 0, none⟩ = some (.int .u64 bg) ∧ w'.cell? ⟨bi, 1, none⟩ = some (.int .u64 bh) ∧ w'.cell? ⟨bi, 2, none⟩ = some (.slice (some bj) be.length bJ) ∧ w'.cell? (bj.add ((ba).toNat * 3)) = some (.string ((rd_T84 be ba).f0)) ∧ w'.cell? ⟨(bj.add ((ba).toNat * 3)).block, (bj.add ((ba).toNat * 3)).off + 1, none⟩ = some (.int .u64 ((rd_T84 be ba).f1)) ∧ w'.cell? ⟨(bj.add ((ba).toNat * 3)).block, (bj.add ((ba).toNat * 3)).off + 2, none⟩ = some (.slice b4 ((rd_T84 be ba).f2).length b3) ∧ w'.cell? (bj.add ((ba).toNat * 3)) = some (.string ((rd_T84 be ba).f0)) ∧ w'.cell? ⟨(bj.add ((ba).toNat * 3)).block, (bj.add ((ba).toNat * 3)).off + 1, none⟩ = some (.int .u64 ((rd_T84 be ba).f1)) ∧ w'.cell? ⟨(bj.add ((ba).toNat * 3)).block, (bj.add ((ba).toNat * 3)).off + 2, none⟩ = some (.slice b4 ((rd_T84 be ba).f2).length b3) ∧ w'.cell? (bj.add ((ba).toNat * 3)) = some (.string ((rd_T84 be ba).f0)) ∧ w'.cell? ⟨(bj.add ((ba).toNat * 3)).block, (bj.add ((ba).toNat * 3)).off + 1, none⟩ = some (.int .u64 ((rd_T84 be ba).f1)) ∧ w'.cell? ⟨(bj.add ((ba).toNat * 3)).block, (bj.add ((ba).toNat * 3)).off + 2, none⟩ = some (.slice b4 ((rd_T84 be ba).f2).length b3)) (ds := [26]) #[Ff,Ff,Ff,Ff,Ff,Ff,Ff,Ff,Ff,Ff,Ff,Ff,Ff,Ff,Ff,Ff,Ff,Ff,Ff,Ff,Ff,Ff,Ff,Ff,Ff,Ff,Ff] (by kernel_rfl) rfl rfl ⟨(blk_cell bc.out 0).trans rfl, (blk_cell bc.out 1).trans rfl, (blk_cell bc.out 2).trans rfl, (blk_cell bd.out 0).trans rfl, (blk_cell bd.out 1).trans rfl, (blk_cell bd.out 2).trans rfl, ((HB.out.cell (World.block_lt_of_cell? w _ bw)).trans bw), ((HB.out.cell (World.block_lt_of_cell? w _ bu)).trans bu), ((HB.out.cell (World.block_lt_of_cell? w _ br)).trans br), ((HB.out.cell (World.block_lt_of_cell? w _ bq)).trans bq), ((HB.out.cell (World.block_lt_of_cell? w _ bp)).trans bp), ((HB.out.cell (World.block_lt_of_cell? w _ bo)).trans bo), ((HB.out.cell (World.block_lt_of_cell? w _ bn)).trans bn), ((HB.out.cell (World.block_lt_of_cell? w _ bm)).trans bm), ((HB.out.cell (World.block_lt_of_cell? w _ bl)).trans bl)⟩ (fun hHeld => ?_); refine with_tabW postroomref10_copied.tab5 postroomref10_copied.bits5 (fun HT_ HW_ => ?_)
  generalize wr.drew = w17 at bb bd bz bc HB dn dm dd bP bO bD bN bM bH bL bK bG hHeld ⊢
  refine pp_ 0 (some 17) HT_.out ?_
  refine pp_ 2 (some 19) HT_.out ?_
  refine pp_ 4 (some 21) HT_.out ?_
  refine pp_ 8 (some 25) HT_.out ?_
  refine pp_ 10 (some 27) HT_.out ?_
  refine pp_ 15 (some 32) HT_.out ?_
  refine pp_ 17 (some 34) HT_.out ?_
  refine take_ (i := 1) (N := some 18) (v := ?_) (a' := ?_) #[Tt,Tt,Tt,Ff,Tt,Ff,Ff,Ff,Tt,Ff,Tt,Ff,Ff,Ff,Ff,Tt,Ff,Tt,Ff,Ff,Ff,Ff,Ff,Ff,Ff,Ff,Ff] rfl rfl (take_ofW HT_.out HW_.out (by kernel_rfl)) (fun _ _ _ h => h) (Or.inl ⟨by rfl, ?_⟩) hHeld ?_ ?_
  rotate_left
  ·rintro w' ⟨s0, s1, s2, s3, s4, s5, s6, s7, s8, s9, s10, s11, s12, s13, s14⟩
   go_simp
   with_reducible rfl
  rotate_left
  ·simp only [Act.put, List.setIfInBounds_toArray, List.set_cons_zero, List.set_cons_succ, i64_w, i32_w]
   rfl
  refine take_ (i := 3) (N := some 20) (v := ?_) (a' := ?_) #[Tt,Tt,Tt,Tt,Tt,Ff,Ff,Ff,Tt,Ff,Tt,Ff,Ff,Ff,Ff,Tt,Ff,Tt,Ff,Ff,Ff,Ff,Ff,Ff,Ff,Ff,Ff] rfl rfl (take_ofW HT_.out HW_.out (by kernel_rfl)) (fun _ _ _ h => h) (Or.inl ⟨by rfl, ?_⟩) hHeld ?_ ?_
  rotate_left
  ·rintro w' ⟨s0, s1, s2, s3, s4, s5, s6, s7, s8, s9, s10, s11, s12, s13, s14⟩
   go_simp
   with_reducible rfl
  rotate_left
  ·simp only [Act.put, List.setIfInBounds_toArray, List.set_cons_zero, List.set_cons_succ, i64_w, i32_w]
   rfl
  refine pp_ 5 (some 22) HT_.out ?_
  refine pp_ 6 (some 23) HT_.out ?_
  refine take_ (i := 7) (N := some 24) (v := ?_) (a' := ?_) #[Tt,Tt,Tt,Tt,Tt,Tt,Tt,Tt,Tt,Ff,Tt,Ff,Ff,Ff,Ff,Tt,Ff,Tt,Ff,Ff,Ff,Ff,Ff,Ff,Ff,Ff,Ff] rfl rfl (take_ofW HT_.out HW_.out (by kernel_rfl)) (fun _ _ _ h => h) (Or.inl ⟨by rfl, ?_⟩) hHeld ?_ ?_
  rotate_left
  ·rintro w' ⟨s0, s1, s2, s3, s4, s5, s6, s7, s8, s9, s10, s11, s12, s13, s14⟩
   go_simp
   with_reducible rfl
  rotate_left
  ·simp only [Act.put, List.setIfInBounds_toArray, List.set_cons_zero, List.set_cons_succ, i64_w, i32_w]
   rfl
  refine take_ (i := 9) (N := some 26) (v := ?_) (a' := ?_) #[Tt,Tt,Tt,Tt,Tt,Tt,Tt,Tt,Tt,Tt,Tt,Ff,Ff,Ff,Ff,Tt,Ff,Tt,Ff,Ff,Ff,Ff,Ff,Ff,Ff,Ff,Ff] rfl rfl (take_ofW HT_.out HW_.out (by kernel_rfl)) (fun _ _ _ h => h) (Or.inl ⟨by rfl, ?_⟩) hHeld ?_ ?_
  rotate_left
  ·rintro w' ⟨s0, s1, s2, s3, s4, s5, s6, s7, s8, s9, s10, s11, s12, s13, s14⟩
   go_simp
   with_reducible rfl
  rotate_left
  ·simp only [Act.put, List.setIfInBounds_toArray, List.set_cons_zero, List.set_cons_succ, i64_w, i32_w]
   rfl
  refine pp_ 11 (some 28) HT_.out ?_
  refine pp_ 12 (some 29) HT_.out ?_
  refine take_ (i := 13) (N := some 30) (v := ?_) (a' := ?_) #[Tt,Tt,Tt,Tt,Tt,Tt,Tt,Tt,Tt,Tt,Tt,Tt,Tt,Tt,Ff,Tt,Ff,Tt,Ff,Ff,Ff,Ff,Ff,Ff,Ff,Ff,Ff] rfl rfl (take_ofW HT_.out HW_.out (by kernel_rfl)) (fun _ _ _ h => h) (Or.inl ⟨by rfl, ?_⟩) hHeld ?_ ?_
  rotate_left
  ·rintro w' ⟨s0, s1, s2, s3, s4, s5, s6, s7, s8, s9, s10, s11, s12, s13, s14⟩
   go_simp
   with_reducible rfl
  rotate_left
  ·simp only [Act.put, List.setIfInBounds_toArray, List.set_cons_zero, List.set_cons_succ, i64_w, i32_w]
   rfl
  refine take_ (i := 16) (N := some 33) (v := ?_) (a' := ?_) #[Tt,Tt,Tt,Tt,Tt,Tt,Tt,Tt,Tt,Tt,Tt,Tt,Tt,Tt,Ff,Tt,Tt,Tt,Ff,Ff,Ff,Ff,Ff,Ff,Ff,Ff,Ff] rfl rfl (take_ofW HT_.out HW_.out (by kernel_rfl)) (fun _ _ _ h => h) (Or.inl ⟨by rfl, ?_⟩) hHeld ?_ ?_
  rotate_left
  ·rintro w' ⟨s0, s1, s2, s3, s4, s5, s6, s7, s8, s9, s10, s11, s12, s13, s14⟩
   go_simp
   with_reducible rfl
  rotate_left
  ·simp only [Act.put, List.setIfInBounds_toArray, List.set_cons_zero, List.set_cons_succ, i64_w, i32_w]
   rfl
  refine pp_ 18 (some 35) HT_.out ?_
  refine pp_ 19 (some 36) HT_.out ?_
  refine take_ (i := 20) (N := some 37) (v := ?_) (a' := ?_) #[Tt,Tt,Tt,Tt,Tt,Tt,Tt,Tt,Tt,Tt,Tt,Tt,Tt,Tt,Ff,Tt,Tt,Tt,Tt,Tt,Tt,Ff,Ff,Ff,Ff,Ff,Ff] rfl rfl (take_ofW HT_.out HW_.out (by kernel_rfl)) (fun _ _ _ h => h) (Or.inl ⟨by rfl, ?_⟩) hHeld ?_ ?_
  rotate_left
  ·rintro w' ⟨s0, s1, s2, s3, s4, s5, s6, s7, s8, s9, s10, s11, s12, s13, s14⟩
   go_simp
   with_reducible rfl
  rotate_left
  ·simp only [Act.put, List.setIfInBounds_toArray, List.set_cons_zero, List.set_cons_succ, i64_w, i32_w]
   rfl
  refine one_ (i := 14) (N := some 31) #[Tt,Tt,Tt,Tt,Tt,Tt,Tt,Tt,Tt,Tt,Tt,Tt,Tt,Tt,Tt,Tt,Tt,Tt,Tt,Tt,Tt,Ff,Ff,Ff,Ff,Ff,Ff] rfl rfl (one_of HT_.out (by kernel_rfl)) (by decide) (fun K hK => ?_)
  refine Kd.R_lit_step (Kd.int .u8) _ 5 ?hg (N := 31) ?hd (xs := ([] : List Int)) (inner := []) (ok := fun _ => True) (okp := fun _ => True) ?hr ?hp (fun _ hk => hk) trivial (Below.refl _ _) (Nat.le_refl _) (by simp) ?_; (case hd => rfl); (case hg => rfl); (case hr => first | (go_simp; done) | (go_simp; rfl)); (case hp => exact (Reps.none _ _))
  intro gy w18 dh hb hg_ hnew_
  clear hg_ hnew_
  (first | rw [← dr.out] at dh | (simp only [Int.reduceToNat] at dh; rw [← dr.out] at dh))
  replace bb := Aside0.mk (Kd.S_elder' (by (with_reducible repeat (first | apply Kd.S_alloc | apply Kd.S_drewN | apply Kd.S_drew)); exact bb.out) (Kd.R_base dh) hb)
  have b1 := Aside0.mk (Kd.R_lower dh (below_size zx12_0))
  replace bd := Aside0.mk (blk_below (g := bi) (o := .cells #[.int .u64 bg, .int .u64 bh, .slice (some bj) be.length bJ] 57 (0, 0)) zx12_1 hb)
  replace bz := Aside0.mk (blk_below (g := bA) (o := .cells #[.int .u64 0, .int .u64 0, .slice none 0 0] 57 (0, 0)) zx12_2 hb)
  replace bc := Aside0.mk (blk_below (g := bx) (o := .cells #[.int .u64 bg, .int .u64 bh, bk] 57 (0, 0)) zx12_6 hb)
  replace HB := Aside0.mk (below_step zx12_0 hb)
  clear hb dh
  refine hK.out _ _ ⟨(blk_cell bc.out 0).trans rfl, (blk_cell bc.out 1).trans rfl, (blk_cell bc.out 2).trans rfl, (blk_cell bd.out 0).trans rfl, (blk_cell bd.out 1).trans rfl, (blk_cell bd.out 2).trans rfl, ((HB.out.cell (World.block_lt_of_cell? w _ bw)).trans bw), ((HB.out.cell (World.block_lt_of_cell? w _ bu)).trans bu), ((HB.out.cell (World.block_lt_of_cell? w _ br)).trans br), ((HB.out.cell (World.block_lt_of_cell? w _ bq)).trans bq), ((HB.out.cell (World.block_lt_of_cell? w _ bp)).trans bp), ((HB.out.cell (World.block_lt_of_cell? w _ bo)).trans bo), ((HB.out.cell (World.block_lt_of_cell? w _ bn)).trans bn), ((HB.out.cell (World.block_lt_of_cell? w _ bm)).trans bm), ((HB.out.cell (World.block_lt_of_cell? w _ bl)).trans bl)⟩ (fun hHeld => ?_)
  clear hK K
  refine na_ 31 ?_
  refine one_ (i := 21) (N := some 38) #[Tt,Tt,Tt,Tt,Tt,Tt,Tt,Tt,Tt,Tt,Tt,Tt,Tt,Tt,Tt,Tt,Tt,Tt,Tt,Tt,Tt,Tt,Ff,Ff,Ff,Ff,Ff] rfl rfl (one_of HT_.out (by kernel_rfl)) (by decide) (fun K hK => ?_)
  refine Kd.R_append_rows_step (Kd.int .u8) (w0 := w) w.heap.size (by rfl) (.tmp 31) (.tmp 37) 82 5 (.int .u8 0) 1 rfl Tryd.underlying82 info5 rfl (by decide) (by omega) gy bX ((rd_T84 be ba).f2) _ _ _ (fun _ => True) (fun _ => False) rfl rfl ?aO ?aR (fun _ _ h => h) (fun _ h => h.elim) ?aF ?aB ?aS ?aL ?_
  (case aR => repeat (first | exact (Kd.C_below dd.out HB.out) | (with_reducible refine Kd.C_alloc ?_ _) | (with_reducible refine Kd.C_drewN ?_ _) | (with_reducible refine Kd.C_drew ?_)))
  (case aB => exact zx12_0)
  (case aF => exact (fun _ _ => trivial))
  (case aO => exact (by (with_reducible repeat (first | apply Kd.R_alloc | apply Kd.R_drewN | apply Kd.R_drew)); exact b1.out))
  (case aS => exact (below_size zx12_0))
  (case aL => have := dX.out; omega)
  intro gY w20 ho hb hg hat
  rw [← dV.out] at ho
  have n0_ := Aside0.mk (Kd.S_after (ok := (fun _ => True)) (by (with_reducible repeat (first | apply Kd.S_alloc | apply Kd.S_drewN | apply Kd.S_drew)); exact bb.out) hg hat)
  have n1_ := Aside0.mk (blk_grown (g := bi) (o := .cells #[.int .u64 bg, .int .u64 bh, .slice (some bj) be.length bJ] 57 (0, 0)) zx12_1 hg (Kd.R_ne b1.out bd.out (by decide)))
  have n2_ := Aside0.mk (blk_grown (g := bA) (o := .cells #[.int .u64 0, .int .u64 0, .slice none 0 0] 57 (0, 0)) zx12_2 hg (Kd.R_ne b1.out bz.out (by decide)))
  have n3_ := Aside0.mk (blk_grown (g := bx) (o := .cells #[.int .u64 bg, .int .u64 bh, bk] 57 (0, 0)) zx12_6 hg (Kd.R_ne b1.out bc.out (by decide)))
  have n4_ := Aside0.mk (hb)
  have n5_ := Aside0.mk (ho)
  clear bb
  clear bd
  clear bz
  clear bc
  clear HB
  (try clear b1)
  have bb := n0_
  have bd := n1_
  have bz := n2_
  have bc := n3_
  have HB := n4_
  have de := n5_
  clear n0_ n1_ n2_ n3_ n4_ n5_
  clear ho hb hg hat
  obtain ⟨d0, dQ, dN⟩ := Kd.R_slice de.out
  (first | subst dN | (injection dN with f1_ f2_ f3_; have f4_ := f1_.symm; have f5_ := f3_.symm; clear f1_ f2_ f3_; subst f4_; subst f5_))
  refine hK.out _ _ ⟨(blk_cell bc.out 0).trans rfl, (blk_cell bc.out 1).trans rfl, (blk_cell bc.out 2).trans rfl, (blk_cell bd.out 0).trans rfl, (blk_cell bd.out 1).trans rfl, (blk_cell bd.out 2).trans rfl, ((HB.out.cell (World.block_lt_of_cell? w _ bw)).trans bw), ((HB.out.cell (World.block_lt_of_cell? w _ bu)).trans bu), ((HB.out.cell (World.block_lt_of_cell? w _ br)).trans br), ((HB.out.cell (World.block_lt_of_cell? w _ bq)).trans bq), ((HB.out.cell (World.block_lt_of_cell? w _ bp)).trans bp), ((HB.out.cell (World.block_lt_of_cell? w _ bo)).trans bo), ((HB.out.cell (World.block_lt_of_cell? w _ bn)).trans bn), ((HB.out.cell (World.block_lt_of_cell? w _ bm)).trans bm), ((HB.out.cell (World.block_lt_of_cell? w _ bl)).trans bl)⟩ (fun hHeld => ?_)
  clear hK K
  refine na_ 38 ?_
  refine pp_ 22 (some 39) HT_.out ?_
  refine one_ (i := 23) (N := some 40) #[Tt,Tt,Tt,Tt,Tt,Tt,Tt,Tt,Tt,Tt,Tt,Tt,Tt,Tt,Tt,Tt,Tt,Tt,Tt,Tt,Tt,Tt,Tt,Tt,Ff,Ff,Ff] rfl rfl (one_of HT_.out (by kernel_rfl)) (by decide) (fun K hK => ?_)
  refine value_ (w1 := ?_) (v := ?_) (by rfl) rfl ?_ ?_
  rotate_left 2
  ·go_simp
   constructor
   ·rfl
   ·rfl
  refine hK.out _ _ ⟨(blk_cell (blk_alloc bc.out _) 0).trans rfl, (blk_cell (blk_alloc bc.out _) 1).trans rfl, (blk_cell (blk_alloc bc.out _) 2).trans rfl, (blk_cell (blk_alloc bd.out _) 0).trans rfl, (blk_cell (blk_alloc bd.out _) 1).trans rfl, (blk_cell (blk_alloc bd.out _) 2).trans rfl, (World.cell?_alloc_lt _ _ _ (World.block_lt_of_cell? _ _ (((HB.out.cell (World.block_lt_of_cell? w _ bw)).trans bw)))).trans (((HB.out.cell (World.block_lt_of_cell? w _ bw)).trans bw)), (World.cell?_alloc_lt _ _ _ (World.block_lt_of_cell? _ _ (((HB.out.cell (World.block_lt_of_cell? w _ bu)).trans bu)))).trans (((HB.out.cell (World.block_lt_of_cell? w _ bu)).trans bu)), (World.cell?_alloc_lt _ _ _ (World.block_lt_of_cell? _ _ (((HB.out.cell (World.block_lt_of_cell? w _ br)).trans br)))).trans (((HB.out.cell (World.block_lt_of_cell? w _ br)).trans br)), (World.cell?_alloc_lt _ _ _ (World.block_lt_of_cell? _ _ (((HB.out.cell (World.block_lt_of_cell? w _ bq)).trans bq)))).trans (((HB.out.cell (World.block_lt_of_cell? w _ bq)).trans bq)), (World.cell?_alloc_lt _ _ _ (World.block_lt_of_cell? _ _ (((HB.out.cell (World.block_lt_of_cell? w _ bp)).trans bp)))).trans (((HB.out.cell (World.block_lt_of_cell? w _ bp)).trans bp)), (World.cell?_alloc_lt _ _ _ (World.block_lt_of_cell? _ _ (((HB.out.cell (World.block_lt_of_cell? w _ bo)).trans bo)))).trans (((HB.out.cell (World.block_lt_of_cell? w _ bo)).trans bo)), (World.cell?_alloc_lt _ _ _ (World.block_lt_of_cell? _ _ (((HB.out.cell (World.block_lt_of_cell? w _ bn)).trans bn)))).trans (((HB.out.cell (World.block_lt_of_cell? w _ bn)).trans bn)), (World.cell?_alloc_lt _ _ _ (World.block_lt_of_cell? _ _ (((HB.out.cell (World.block_lt_of_cell? w _ bm)).trans bm)))).trans (((HB.out.cell (World.block_lt_of_cell? w _ bm)).trans bm)), (World.cell?_alloc_lt _ _ _ (World.block_lt_of_cell? _ _ (((HB.out.cell (World.block_lt_of_cell? w _ bl)).trans bl)))).trans (((HB.out.cell (World.block_lt_of_cell? w _ bl)).trans bl))⟩ (fun hHeld => ?_)
  clear hK K
  refine na_ 40 ?_
  refine one_ (i := 24) (N := some 41) #[Tt,Tt,Tt,Tt,Tt,Tt,Tt,Tt,Tt,Tt,Tt,Tt,Tt,Tt,Tt,Tt,Tt,Tt,Tt,Tt,Tt,Tt,Tt,Tt,Tt,Ff,Ff] rfl rfl (one_of HT_.out (by kernel_rfl)) (by decide) (fun K hK => ?_)
  refine Kd.S_append_step k84 (w0 := w) w.heap.size (by rfl) (.tmp 18) (.tmp 40) 55 84 (.agg #[(.string ⟨#[]⟩), (.int .u64 0), (.slice none 0 0)]) 48 rfl Tryd.underlying55 info84 rfl (by decide) (by omega) bk bf (⟨(rd_T84 be ba).f0, (rd_T84 be ba).f1, dg⟩ : S84) [.string ((rd_T84 be ba).f0), .int .u64 ((rd_T84 be ba).f1), .slice d0 dg.length dQ] (fun _ => True) (fun k_ => some k_ = (.slice d0 dg.length dQ : Value).ownBlock) rfl rfl ?aP (fun k_ hk_ => ((Kd.R_mono (ok' := fun k_ => ((fun _ => True)) k_ ∧ some k_ ≠ (bk : Value).ownBlock) (Kd.R_apart' (de.out) (Kd.S_typed bb.out) (by decide)) (fun k_ hk => ⟨trivial, hk.2⟩))).1 k_ hk_.symm) ?aF ?aO ?aB ?aS ?aL ?_
  (case aP => exact k84_mkM _ _ _ (⟨(rd_T84 be ba).f0, (rd_T84 be ba).f1, dg⟩ : S84) (Kd.R_mono (Kd.R_tight rfl (Kd.R_mono (ok' := fun k_ => ((fun _ => True)) k_ ∧ some k_ ≠ (bk : Value).ownBlock) (Kd.R_apart' (de.out) (Kd.S_typed bb.out) (by decide)) (fun k_ hk => ⟨trivial, hk.2⟩))) (fun _ h_ => h_)))
  (case aB => exact zx12_0)
  (case aF => exact (fun _ _ => trivial))
  (case aO => exact (by (with_reducible repeat (first | apply Kd.S_alloc | apply Kd.S_drewN | apply Kd.S_drew)); exact Kd.S_mono bb.out (fun k_ hk => ⟨trivial, fun e_ => hk.2 e_⟩)))
  (case aS => exact (below_size zx12_0))
  (case aL => have := dW.out; omega)
  intro gX w22 ho hb hg hat
  rw [← dU.out] at ho
  have n0_ := Aside0.mk (blk_grown (g := bi) (o := .cells #[.int .u64 bg, .int .u64 bh, .slice (some bj) be.length bJ] 57 (0, 0)) zx12_1 hg (Kd.S_ne bb.out bd.out (by decide)))
  have n1_ := Aside0.mk (blk_grown (g := bA) (o := .cells #[.int .u64 0, .int .u64 0, .slice none 0 0] 57 (0, 0)) zx12_2 hg (Kd.S_ne bb.out bz.out (by decide)))
  have n2_ := Aside0.mk (blk_grown (g := bx) (o := .cells #[.int .u64 bg, .int .u64 bh, bk] 57 (0, 0)) zx12_6 hg (Kd.S_ne bb.out bc.out (by decide)))
  have n3_ := Aside0.mk (hb)
  have n4_ := Aside0.mk (ho)
  clear bd
  clear bz
  clear bc
  clear HB
  clear bb
  (try clear de)
  have bd := n0_
  have bz := n1_
  have bc := n2_
  have HB := n3_
  have dt := n4_
  clear n0_ n1_ n2_ n3_ n4_
  clear ho hb hg hat
  obtain ⟨dZ, dP, dM⟩ := Kd.S_slice dt.out
  (first | subst dM | (injection dM with f1_ f2_ f3_; have f4_ := f1_.symm; have f5_ := f3_.symm; clear f1_ f2_ f3_; subst f4_; subst f5_))
  refine hK.out _ _ ⟨(blk_cell bc.out 0).trans rfl, (blk_cell bc.out 1).trans rfl, (blk_cell bc.out 2).trans rfl, (blk_cell bd.out 0).trans rfl, (blk_cell bd.out 1).trans rfl, (blk_cell bd.out 2).trans rfl, ((HB.out.cell (World.block_lt_of_cell? w _ bw)).trans bw), ((HB.out.cell (World.block_lt_of_cell? w _ bu)).trans bu), ((HB.out.cell (World.block_lt_of_cell? w _ br)).trans br), ((HB.out.cell (World.block_lt_of_cell? w _ bq)).trans bq), ((HB.out.cell (World.block_lt_of_cell? w _ bp)).trans bp), ((HB.out.cell (World.block_lt_of_cell? w _ bo)).trans bo), ((HB.out.cell (World.block_lt_of_cell? w _ bn)).trans bn), ((HB.out.cell (World.block_lt_of_cell? w _ bm)).trans bm), ((HB.out.cell (World.block_lt_of_cell? w _ bl)).trans bl)⟩ (fun hHeld => ?_)
  clear hK K
  refine na_ 41 ?_
  refine pp_ 25 (some 42) HT_.out ?_
  refine last_ (i := 26) (N := none) #[Tt,Tt,Tt,Tt,Tt,Tt,Tt,Tt,Tt,Tt,Tt,Tt,Tt,Tt,Tt,Tt,Tt,Tt,Tt,Tt,Tt,Tt,Tt,Tt,Tt,Tt,Tt] rfl rfl (one_of HT_.out (by kernel_rfl)) (by decide) (fun K hK => ?_)
  have hc : w22.cell? ⟨bx, 2, none⟩ = some (bk) := (blk_cell bc.out 2).trans rfl
  have gR := blk_frozen bc.out 2
  have d2 := bB.out
  have d1 := bC.out
  have d4 := bI.out
  have d3 := bQ.out
  refine skip_ (w1 := ?_) (by rfl) rfl ?_ ?_
  rotate_left
  ·go_simp
   rfl
  refine hK.out _ _ ?_
  clear hK K
  refine done_ (done_of HT_.out (by kernel_rfl)) ?_
  try go_wp2
  go_roundg k1
  case measure => have := HK1.out; omega
  case rel => exact ⟨(wrap64 (ba + 1)), (dj), (.slice dZ dj.length dP), (by first | rfl | (simp; done) | (simp [*]; done)), H', ⟨by have := HK1.out; omega⟩, ⟨by (with_reducible repeat (first | apply Kd.S_alloc | apply Kd.S_drewN | apply Kd.S_drew)); exact Kd.S_mono (Kd.S_far (p := ⟨bx, 2, none⟩) (Kd.S_types dt.out bc.out (by decide)) (fun _ hk => hk.2) (.slice dZ dj.length dP)) (fun _ hk => trivial)⟩, ⟨by (with_reducible repeat (first | refine blk_drewN ?_ _ | refine blk_drew ?_ | refine blk_alloc ?_ _)); refine blk_far ?_ bB.out _; (with_reducible repeat (first | refine blk_drewN ?_ _ | refine blk_drew ?_ | refine blk_alloc ?_ _)); exact bd.out⟩, ⟨by (with_reducible repeat (first | refine blk_drewN ?_ _ | refine blk_drew ?_ | refine blk_alloc ?_ _)); refine blk_far ?_ bC.out _; (with_reducible repeat (first | refine blk_drewN ?_ _ | refine blk_drew ?_ | refine blk_alloc ?_ _)); exact bz.out⟩, ⟨by (with_reducible repeat (first | refine blk_drewN ?_ _ | refine blk_drew ?_ | refine blk_alloc ?_ _)); refine blk_put (cs := #[.int .u64 bg, .int .u64 bh, bk]) ?_ 2 _ rfl; (with_reducible repeat (first | refine blk_drewN ?_ _ | refine blk_drew ?_ | refine blk_alloc ?_ _)); exact bc.out⟩, ⟨by repeat (first | (with_reducible first | exact HB.out | apply below_alloc | apply pw_below_drewN | apply below_drew1 | refine below_set ?_ bV.out | refine below_set ?_ b2.out | refine below_set ?_ df.out) | exact HB.out)⟩⟩
end Go.Proofs.YthhmpjapnkilcaaDoor.XLdg
end
section
/- What the functions of the translation answer, each as a plain Lean function, and that the code comes to it; for a law: its row. Conditions: none but those that each theorem names. Written by a program of this session (wip/xp). -/
namespace Go.Proofs.YthhmpjapnkilcaaDoor.XLdg
open Go.RowKit Go.Proofs.YthhmpjapnkilcaaDoorW.PrintWords Go.Proofs.YthhmpjapnkilcaaDoorW.PrintLast Go.Proofs.YthhmpjapnkilcaaDoorW.PrintMore
attribute [local go_sem] max2_int min2_int max_two min_two max_three min_three max_four min_four   -- for this text's walks alone
set_option linter.unusedVariables false
set_option linter.unusedSimpArgs false

/-! ### postroomref10_Low: function 55 -/
theorem cx20_bc3 {w : World} {g : Nat} {t : TypeId} {x0 x1 x2 : Value} (h : w.heap[g]? = some (.cells #[x0, x1, x2] t (0, 0))) : w.cell? ⟨g, 0, none⟩ = some x0 ∧ w.cell? ⟨g, 1, none⟩ = some x1 ∧ w.cell? ⟨g, 2, none⟩ = some x2 ∧ w.frozen? ⟨g, 0, none⟩ = false ∧ w.frozen? ⟨g, 1, none⟩ = false ∧ w.frozen? ⟨g, 2, none⟩ = false :=
 ⟨(blk_cell h 0).trans rfl, (blk_cell h 1).trans rfl, (blk_cell h 2).trans rfl, blk_frozen h 0, blk_frozen h 1, blk_frozen h 2⟩
def postroomref10_Low.l0 : Nat → Int → ByteArray → Int → List Int → Option (Int)
 | 0, _, _, _, _ => none
 | k + 1, x3, bm, bf, bd => if x3 < (bd.length : Int) then (if 0 ≤ x3 then (if (rd bd x3) = 112 then (some (IntKind.u64.wrap (bf + (IntKind.u64.wrap (x3))))) else (postroomref10_Low.l0 k (wrap64 (x3 + 1)) bm bf bd)) else (none)) else (some (IntKind.u64.wrap (bf + (IntKind.u64.wrap ((bd.length : Int))))))
def postroomref10_Low.f (k : Nat) (bh : ByteArray) (bg : Int) (ba : List Int) : Option (Int) := postroomref10_Low.l0 k 0 bh bg ba
set_option maxHeartbeats 8000000 in
set_option maxRecDepth 100000 in
theorem postroomref10_Low.calls (k : Nat) (bh : ByteArray) (bg : Int) (bo : Option Addr) (bn : Nat) (ba : List Int) (r : Int) (w : World) (bp : Kd.C (Kd.int .u8) w bo ba.length ba) (bq : ba.length ≤ bn) (h : postroomref10_Low.f k bh bg ba = some r) :
  Calls Tryd.prog 55 #[.agg #[.string bh, .int .u64 bg, .slice bo ba.length bn]] w fun e w' => e = .returned (.int .u64 r) ∧ Below w.heap.size w w' := by
 have bX := Tryd.underlying84
 have br := Aside0.mk bp
 have bV := Aside0.mk bq
 clear bp bq
 have HB := Aside0.mk (Below.refl w.heap.size w)
 have H : (postroomref10_Low.l0 k 0 bh bg ba) = some r := h
 clear h
 have H' := Aside0.mk H
 clear H
 go_enter Tryd.func55, Tryd.ntmps55
 go_wp2_with (first | ((with_reducible refine gate_dst (N := 1) rfl ?_); refine box_event ?hg (N := 1) ?hd (cs := #[.string bh, .int .u64 bg, .slice bo ba.length bn]) (t := 84) ?hr ?_; (case hd => rfl); (case hg => rfl); (case hr => first | (go_simp; done) | (go_simp; rfl)); intro bl hg w2 hbox hb; have be := Aside0.mk (hbox); have bW := Aside0.mk ((by rw [hg]; exact (below_size (by repeat (first | (with_reducible first | exact HB.out | apply below_alloc | apply pw_below_drewN | apply below_drew1) | exact HB.out))) : w.heap.size ≤ bl)); have bk := Aside0.mk ((by rw [hg]; exact (below_size (by repeat (first | (with_reducible first | exact HB.out | apply below_alloc | apply pw_below_drewN | apply below_drew1) | exact HB.out))) : w.heap.size ≤ bl)); replace HB := Aside0.mk (below_step (by repeat (first | (with_reducible first | exact HB.out | apply below_alloc | apply pw_below_drewN | apply below_drew1) | exact HB.out)) hb); clear hb hbox hg))
 go_loopg [3] k (fun kq v3 w' => ∃ (bb : Int), v3 = .int .i64 bb ∧ Aside0 (postroomref10_Low.l0 kq bb bh bg ba = some r) ∧ Aside0 (kq ≤ k) ∧ Aside0 (w'.heap[bl]? = some (.cells #[.string bh, .int .u64 bg, (.slice bo ba.length bn)] 84 (0, 0))) ∧ Aside0 (Below w.heap.size w w'))
 case atStart => exact ⟨(0), (by first | rfl | (simp; done) | (simp [*]; done)), H', ⟨Nat.le_refl _⟩, ⟨by (with_reducible repeat (first | refine blk_drewN ?_ _ | refine blk_drew ?_ | refine blk_alloc ?_ _)); exact be.out⟩, ⟨by repeat (first | (with_reducible first | exact HB.out | apply below_alloc | apply pw_below_drewN | apply below_drew1 | refine below_set ?_ bk.out) | exact HB.out)⟩⟩
 case round =>
  clear H'
  (try clear p2)
  obtain ⟨bb, rfl, HA, HK1, be, HB⟩ := hrel
  cases gk with
  | zero => exact absurd HA.out (by simp [postroomref10_Low.l0])
  | succ k1 => ?_
  have H := HA.out
  clear HA
  simp only [postroomref10_Low.l0] at H
  by_cases c3 : bb < (ba.length : Int)
  case neg =>
   rw [if_neg c3] at H
   have bU : decide (bb < (ba.length : Int)) = false := decide_eq_false c3
   clear c3
   obtain rfl := Option.some.inj H
   obtain ⟨bK, bJ, bI, bA, bz, bx⟩ := cx20_bc3 be.out
   go_wp2
   go_ret
   exact ⟨by first | rfl | (simp [errW_none, errW_some] <;> rfl) | (simp [*, errW_none, errW_some] <;> rfl), by repeat (first | (with_reducible first | exact HB.out | apply below_alloc | apply pw_below_drewN | apply below_drew1 | refine below_set ?_ bk.out) | exact HB.out)⟩

  rw [if_pos c3] at H
  have bU : decide (bb < (ba.length : Int)) = true := decide_eq_true c3
  clear c3
  by_cases c4 : 0 ≤ bb
  case neg =>
   rw [if_neg c4] at H
   exact absurd H (by simp)
  rw [if_pos c4] at H
  have bY : decide (0 ≤ bb) = true := decide_eq_true c4
  clear c4
  by_cases c5 : (rd ba bb) = 112
  ·rw [if_pos c5] at H
   have bS : ((rd ba bb) == 112) = true := beq_iff_eq.mpr c5
   have bR : ((rd ba bb) != 112) = false := bne_eq_false_iff_eq.mpr c5
   clear c5
   obtain rfl := Option.some.inj H
   obtain ⟨bQ, bP, bO, bH, bG, bE⟩ := cx20_bc3 be.out
   have bj : 0 ≤ (bb : Int) := of_decide_eq_true (by first | (with_reducible assumption) | assumption)
   have bi : bb < (ba.length : Int) := of_decide_eq_true (by first | (with_reducible assumption) | assumption)
   obtain ⟨bw, bu, bc⟩ := Kd.at_int br.out bb bj bi
   cases bu
   replace bc := (HB.out.cell (World.block_lt_of_cell? w _ bc)).trans bc
   replace bj := eq_true bj
   replace bi := eq_true bi
   go_wp2
   go_ret
   exact ⟨by first | rfl | (simp [errW_none, errW_some] <;> rfl) | (simp [*, errW_none, errW_some] <;> rfl), by repeat (first | (with_reducible first | exact HB.out | apply below_alloc | apply pw_below_drewN | apply below_drew1 | refine below_set ?_ bk.out) | exact HB.out)⟩
  rw [if_neg c5] at H
  have bS : ((rd ba bb) == 112) = false := beq_eq_false_iff_ne.mpr c5
  have bR : ((rd ba bb) != 112) = true := bne_iff_ne.mpr c5
  have H' := Aside0.mk H
  clear H
  obtain ⟨bN, bM, bL, bD, bC, bB⟩ := cx20_bc3 be.out
  have bj : 0 ≤ (bb : Int) := of_decide_eq_true (by first | (with_reducible assumption) | assumption)
  have bi : bb < (ba.length : Int) := of_decide_eq_true (by first | (with_reducible assumption) | assumption)
  obtain ⟨bw, bu, bc⟩ := Kd.at_int br.out bb bj bi
  cases bu
  replace bc := (HB.out.cell (World.block_lt_of_cell? w _ bc)).trans bc
  replace bj := eq_true bj
  replace bi := eq_true bi
  go_wp2
  go_roundg k1
  case measure => have := HK1.out; omega
  case rel => exact ⟨(wrap64 (bb + 1)), (by first | rfl | (simp; done) | (simp [*]; done)), H', ⟨by have := HK1.out; omega⟩, ⟨by (with_reducible repeat (first | refine blk_drewN ?_ _ | refine blk_drew ?_ | refine blk_alloc ?_ _)); exact be.out⟩, ⟨by repeat (first | (with_reducible first | exact HB.out | apply below_alloc | apply pw_below_drewN | apply below_drew1 | refine below_set ?_ bk.out) | exact HB.out)⟩⟩
end Go.Proofs.YthhmpjapnkilcaaDoor.XLdg
end
section
/- What the functions of the translation answer, each as a plain Lean function, and that the code comes to it; for a law: its row. Conditions: none but those that each theorem names. Written by a program of this session (wip/xp). -/
namespace Go.Proofs.YthhmpjapnkilcaaDoor.XLdg
open Go.RowKit Go.Proofs.YthhmpjapnkilcaaDoorW.PrintWords Go.Proofs.YthhmpjapnkilcaaDoorW.PrintLast Go.Proofs.YthhmpjapnkilcaaDoorW.PrintMore
attribute [local go_sem] max2_int min2_int max_two min_two max_three min_three max_four min_four   -- for this text's walks alone
theorem cx21_bc3 {w : World} {g : Nat} {t : TypeId} {x0 x1 x2 : Value} (h : w.heap[g]? = some (.cells #[x0, x1, x2] t (0, 0))) : w.cell? ⟨g, 0, none⟩ = some x0 ∧ w.cell? ⟨g, 1, none⟩ = some x1 ∧ w.cell? ⟨g, 2, none⟩ = some x2 ∧ w.frozen? ⟨g, 0, none⟩ = false ∧ w.frozen? ⟨g, 1, none⟩ = false ∧ w.frozen? ⟨g, 2, none⟩ = false :=
 ⟨(blk_cell h 0).trans rfl, (blk_cell h 1).trans rfl, (blk_cell h 2).trans rfl, blk_frozen h 0, blk_frozen h 1, blk_frozen h 2⟩
theorem zx21_3 {p : Prop} (h : p := by first | (with_reducible assumption) | assumption) : p := h
theorem zx21_2 {p : Prop} (h : p := by (with_reducible repeat (first | refine blk_drewN ?_ _ | refine blk_drew ?_ | refine blk_alloc ?_ _)); exact ba.out) : p := h
theorem zx21_1 {p : Prop} (h : p := by repeat (first | (with_reducible first | exact HB.out | apply below_alloc | apply pw_below_drewN | apply below_drew1) | exact HB.out)) : p := h
theorem zx21_0 {p : Prop} (h : p := by repeat (first | (with_reducible first | exact HB.out | apply below_alloc | apply pw_below_drewN | apply below_drew1 | refine below_set ?_ br.out) | exact HB.out)) : p := h
set_option linter.unusedVariables false
set_option linter.unusedSimpArgs false

/-! ### postroomref10_Above: function 56 -/
def postroomref10_Above.l0 : Nat → List Int → Int → ByteArray → Int → List Int → Option (List Int)
 | 0, _, _, _, _, _ => none
 | k + 1, x3, x4, bn, bl, bk => if x4 < (bk.length : Int) then (if 0 ≤ x4 then (if (rd bk x4) = 112 then (postroomref10_Above.l0 k x3 (wrap64 (x4 + 1)) bn bl bk) else ((postroomref10_Low.f k bn bl bk).bind fun bu => (if (IntKind.u64.wrap (bl + (IntKind.u64.wrap (x4)))) > bu then (if x3.length < 17592186044416 then (postroomref10_Above.l0 k (x3 ++ [IntKind.u64.wrap (bl + (IntKind.u64.wrap (x4)))]) (wrap64 (x4 + 1)) bn bl bk) else (none)) else (postroomref10_Above.l0 k x3 (wrap64 (x4 + 1)) bn bl bk)))) else (none)) else (some x3)
def postroomref10_Above.f (k : Nat) (bh : ByteArray) (bf : Int) (bd : List Int) : Option (List Int) := postroomref10_Above.l0 k ([] : List Int) 0 bh bf bd
def postroomref10_Above.T5 : Bool × List (List Nat × List Nat) := (true, [([], []), ([0], [0]), ([], []), ([1, 2], [1, 2]), ([3], [3]), ([4], [4]), ([5], [5]), ([6], [6]), ([7, 6], [6, 7]), ([6], [6]), ([9, 6], [6, 9]), ([8, 10, 6], [6, 8, 10]), ([6], [6]), ([12, 6, 6], [6, 12]), ([11, 13, 6], [6, 11, 13]), ([6, 14], [6, 14])])
def postroomref10_Above.B5 : List Nat := [0, 1, 0, 7, 15, 31, 63, 127, 255, 127, 639, 2047, 127, 4223, 16383, 32767]
theorem postroomref10_Above.tab5 : rtab .any (opsOf Tryd.f56 5) = postroomref10_Above.T5 := by kernel_rfl
theorem postroomref10_Above.bits5 : waitsOk postroomref10_Above.T5.2 postroomref10_Above.B5 = true := by kernel_rfl
set_option maxHeartbeats 8000000 in
set_option maxRecDepth 100000 in
theorem postroomref10_Above.calls (k : Nat) (bh : ByteArray) (bf : Int) (bA : Option Addr) (bm : Nat) (bd : List Int) (r : List Int) (w : World) (bB : Kd.C (Kd.int .u8) w bA bd.length bd) (bC : bd.length ≤ bm) (h : postroomref10_Above.f k bh bf bd = some r) :
  Calls Tryd.prog 56 #[.agg #[.string bh, .int .u64 bf, .slice bA bd.length bm]] w fun e w' => ∃ v0_ : Value, e = .returned (v0_) ∧ Kd.R (Kd.int .u64) 24 w' w.heap.size (fun _ => True) v0_ r ∧ Below w.heap.size w w' := by
 have dk := Tryd.underlying84
 have bx := Aside0.mk bB
 have bD := Aside0.mk bC
 clear bB bC
 have HB := Aside0.mk (Below.refl w.heap.size w)
 have H : (postroomref10_Above.l0 k ([] : List Int) 0 bh bf bd) = some r := h
 clear h
 have H' := Aside0.mk H
 clear H
 go_enter Tryd.func56, Tryd.ntmps56
 go_wp2_with (first | ((with_reducible refine gate_dst (N := 1) rfl ?_); refine box_event ?hg (N := 1) ?hd (cs := #[.string bh, .int .u64 bf, .slice bA bd.length bm]) (t := 84) ?hr ?_; (case hd => rfl); (case hg => rfl); (case hr => first | (go_simp; done) | (go_simp; rfl)); intro bg hg w2 hbox hb; have ba := Aside0.mk (hbox); have di := Aside0.mk ((by rw [hg]; exact (below_size zx21_1) : w.heap.size ≤ bg)); have br := Aside0.mk ((by rw [hg]; exact (below_size zx21_1) : w.heap.size ≤ bg)); replace HB := Aside0.mk (below_step zx21_1 hb); clear hb hbox hg))
 go_loopg [3, 4] k (fun kq v3 v4 w' => ∃ (bo : List Int) (bc : Int), v4 = .int .i64 bc ∧ Aside0 (postroomref10_Above.l0 kq bo bc bh bf bd = some r) ∧ Aside0 (kq ≤ k) ∧ Aside0 (Kd.R (Kd.int .u64) 24 w' w.heap.size (fun _ => True) v3 bo) ∧ Aside0 (w'.heap[bg]? = some (.cells #[.string bh, .int .u64 bf, (.slice bA bd.length bm)] 84 (0, 0))) ∧ Aside0 (Below w.heap.size w w'))
 case atStart => exact ⟨(([] : List Int)), (0), (by first | rfl | (simp; done) | (simp [*]; done)), H', ⟨Nat.le_refl _⟩, ⟨by first | exact Kd.R_nil _ _ _ _ _ | exact Kd.N_nil _ _ _ _ _ | exact Kd.V_nil _ _ _ _ _ | exact Kd.Q_nil _ _ _ _ _ | exact Kd.S_nil _ _ _ _ _⟩, ⟨by (with_reducible repeat (first | refine blk_drewN ?_ _ | refine blk_drew ?_ | refine blk_alloc ?_ _)); exact ba.out⟩, ⟨by repeat (first | (with_reducible first | exact HB.out | apply below_alloc | apply pw_below_drewN | apply below_drew1 | refine below_set ?_ br.out) | exact HB.out)⟩⟩
 case round =>
  clear H'
  (try clear p2)
  obtain ⟨bo, bc, rfl, HA, HK1, bj, ba, HB⟩ := hrel
  cases gk with
  | zero => exact absurd HA.out (by simp [postroomref10_Above.l0])
  | succ k1 => ?_
  have H := HA.out
  clear HA
  simp only [postroomref10_Above.l0] at H
  by_cases c3 : bc < (bd.length : Int)
  case neg =>
   rw [if_neg c3] at H
   have dh : decide (bc < (bd.length : Int)) = false := decide_eq_false c3
   clear c3
   obtain rfl := Option.some.inj H
   obtain ⟨bY, bX, bW, bL, bK, bJ⟩ := cx21_bc3 ba.out
   go_wp2
   go_ret
   exact ⟨_, by first | rfl | (simp [errW_none, errW_some] <;> rfl) | (simp [*, errW_none, errW_some] <;> rfl), by (with_reducible repeat (first | apply Kd.R_alloc | apply Kd.R_drewN | apply Kd.R_drew)); exact bj.out, by repeat (first | (with_reducible first | exact HB.out | apply below_alloc | apply pw_below_drewN | apply below_drew1 | refine below_set ?_ br.out) | exact HB.out)⟩

  rw [if_pos c3] at H
  have dh : decide (bc < (bd.length : Int)) = true := decide_eq_true c3
  clear c3
  by_cases c4 : 0 ≤ bc
  case neg =>
   rw [if_neg c4] at H
   exact absurd H (by simp)
  rw [if_pos c4] at H
  have dl : decide (0 ≤ bc) = true := decide_eq_true c4
  clear c4
  by_cases c5 : (rd bd bc) = 112
  ·rw [if_pos c5] at H
   have dg : ((rd bd bc) == 112) = true := beq_iff_eq.mpr c5
   have df : ((rd bd bc) != 112) = false := bne_eq_false_iff_eq.mpr c5
   clear c5
   have H' := Aside0.mk H
   clear H
   obtain ⟨dd, dc, db, da, b9, b8⟩ := cx21_bc3 ba.out
   try go_wp2
   replace bj := Aside0.mk (Kd.R_drew bj.out)
   replace ba := Aside0.mk (blk_drew ba.out)
   replace HB := Aside0.mk (below_drew1 HB.out)
   have bq : 0 ≤ (bc : Int) := of_decide_eq_true zx21_3
   have bp : bc < (bd.length : Int) := of_decide_eq_true zx21_3
   obtain ⟨bi, bz, bb⟩ := Kd.at_int bx.out bc bq bp
   have be := bb
   cases bz
   replace bb := (HB.out.cell (World.block_lt_of_cell? w _ bb)).trans bb
   replace bq := eq_true bq
   replace bp := eq_true bp
   refine start_ (n := 16) (S := fun w' => w'.cell? ⟨bg, 0, none⟩ = some (.string bh) ∧ w'.cell? ⟨bg, 1, none⟩ = some (.int .u64 bf) ∧ w'.cell? ⟨bg, 2, none⟩ = some (.slice (some bi) bd.length bm) ∧ w'.cell? (bi.add (bc).toNat) = some (.int .u8 (rd bd bc))) (ds := []) #[Ff,Ff,Ff,Ff,Ff,Ff,Ff,Ff,Ff,Ff,Ff,Ff,Ff,Ff,Ff,Ff] (by kernel_rfl) rfl rfl ⟨(blk_cell ba.out 0).trans rfl, (blk_cell ba.out 1).trans rfl, (blk_cell ba.out 2).trans rfl, ((HB.out.cell (World.block_lt_of_cell? w _ be)).trans be)⟩ (fun hHeld => ?_); refine with_tabW postroomref10_Above.tab5 postroomref10_Above.bits5 (fun HT_ HW_ => ?_)
   generalize wr.drew = w7 at bj ba HB bb hHeld ⊢
   refine pp_ 0 (some 12) HT_.out ?_
   refine pp_ 2 (some 14) HT_.out ?_
   refine take_ (i := 1) (N := some 13) (v := ?_) (a' := ?_) #[Tt,Tt,Tt,Ff,Ff,Ff,Ff,Ff,Ff,Ff,Ff,Ff,Ff,Ff,Ff,Ff] rfl rfl (take_ofW HT_.out HW_.out (by kernel_rfl)) (fun _ _ _ h => h) (Or.inl ⟨by rfl, ?_⟩) hHeld ?_ ?_
   rotate_left
   ·rintro w' ⟨s0, s1, s2, s3⟩
    go_simp
    with_reducible rfl
   rotate_left
   ·simp only [Act.put, List.setIfInBounds_toArray, List.set_cons_zero, List.set_cons_succ, i64_w, i32_w]
    rfl
   refine pp_ 3 (some 15) HT_.out ?_
   refine take_ (i := 4) (N := some 16) (v := ?_) (a' := ?_) #[Tt,Tt,Tt,Tt,Tt,Ff,Ff,Ff,Ff,Ff,Ff,Ff,Ff,Ff,Ff,Ff] rfl rfl (take_ofW HT_.out HW_.out (by kernel_rfl)) (fun _ _ _ h => h) (Or.inl ⟨by rfl, ?_⟩) hHeld ?_ ?_
   rotate_left
   ·rintro w' ⟨s0, s1, s2, s3⟩
    go_simp
    with_reducible rfl
   rotate_left
   ·simp only [Act.put, List.setIfInBounds_toArray, List.set_cons_zero, List.set_cons_succ, i64_w, i32_w]
    rfl
   refine pp_ 5 (some 17) HT_.out ?_
   refine pp_ 6 (some 18) HT_.out ?_
   refine pu_ 7 (some 19) HT_.out ?_
   refine pu_ 8 (some 20) HT_.out ?_
   refine pu_ 9 (some 21) HT_.out ?_
   refine pu_ 10 (some 22) HT_.out ?_
   refine pu_ 11 (some 23) HT_.out ?_
   refine pu_ 12 (some 24) HT_.out ?_
   refine pu_ 13 (some 25) HT_.out ?_
   refine pu_ 14 (some 26) HT_.out ?_
   refine pp_ 15 (some 27) HT_.out ?_
   refine done_ (done_of HT_.out (by kernel_rfl)) ?_
   try go_wp2
   go_roundg k1
   case measure => have := HK1.out; omega
   case rel => exact ⟨(bo), (wrap64 (bc + 1)), (by first | rfl | (simp; done) | (simp [*]; done)), H', ⟨by have := HK1.out; omega⟩, ⟨by (with_reducible repeat (first | apply Kd.R_alloc | apply Kd.R_drewN | apply Kd.R_drew)); exact bj.out⟩, ⟨by (with_reducible repeat (first | refine blk_drewN ?_ _ | refine blk_drew ?_ | refine blk_alloc ?_ _)); exact ba.out⟩, ⟨by repeat (first | (with_reducible first | exact HB.out | apply below_alloc | apply pw_below_drewN | apply below_drew1 | refine below_set ?_ br.out) | exact HB.out)⟩⟩
  rw [if_neg c5] at H
  have dg : ((rd bd bc) == 112) = false := beq_eq_false_iff_ne.mpr c5
  have df : ((rd bd bc) != 112) = true := bne_iff_ne.mpr c5
  replace H := Option.bind_eq_some_iff.mp H
  obtain ⟨bu, A80, H⟩ := H
  replace H : (if (IntKind.u64.wrap (bf + (IntKind.u64.wrap (bc)))) > bu then (if bo.length < 17592186044416 then (postroomref10_Above.l0 k1 (bo ++ [IntKind.u64.wrap (bf + (IntKind.u64.wrap (bc)))]) (wrap64 (bc + 1)) bh bf bd) else (none)) else (postroomref10_Above.l0 k1 bo (wrap64 (bc + 1)) bh bf bd)) = some r := H
  have A8 := Aside0.mk A80
  clear A80
  by_cases c9 : (IntKind.u64.wrap (bf + (IntKind.u64.wrap (bc)))) > bu
  case neg =>
   rw [if_neg c9] at H
   have de : decide (bu < (IntKind.u64.wrap (bf + (IntKind.u64.wrap (bc))))) = false := decide_eq_false c9
   clear c9
   have H' := Aside0.mk H
   clear H
   obtain ⟨b1, b0, bZ, bO, bN, bM⟩ := cx21_bc3 ba.out
   try go_wp2
   replace bj := Aside0.mk (Kd.R_drew bj.out)
   replace ba := Aside0.mk (blk_drew ba.out)
   replace HB := Aside0.mk (below_drew1 HB.out)
   have bq : 0 ≤ (bc : Int) := of_decide_eq_true zx21_3
   have bp : bc < (bd.length : Int) := of_decide_eq_true zx21_3
   obtain ⟨bi, bz, bb⟩ := Kd.at_int bx.out bc bq bp
   have be := bb
   cases bz
   replace bb := (HB.out.cell (World.block_lt_of_cell? w _ bb)).trans bb
   replace bq := eq_true bq
   replace bp := eq_true bp
   refine start_ (n := 16) (S := fun w' => w'.cell? ⟨bg, 0, none⟩ = some (.string bh) ∧ w'.cell? ⟨bg, 1, none⟩ = some (.int .u64 bf) ∧ w'.cell? ⟨bg, 2, none⟩ = some (.slice (some bi) bd.length bm) ∧ w'.cell? (bi.add (bc).toNat) = some (.int .u8 (rd bd bc))) (ds := []) #[Ff,Ff,Ff,Ff,Ff,Ff,Ff,Ff,Ff,Ff,Ff,Ff,Ff,Ff,Ff,Ff] (by kernel_rfl) rfl rfl ⟨(blk_cell ba.out 0).trans rfl, (blk_cell ba.out 1).trans rfl, (blk_cell ba.out 2).trans rfl, ((HB.out.cell (World.block_lt_of_cell? w _ be)).trans be)⟩ (fun hHeld => ?_); refine with_tabW postroomref10_Above.tab5 postroomref10_Above.bits5 (fun HT_ HW_ => ?_)
   generalize wr.drew = w17 at bj ba HB bb hHeld ⊢
   refine pp_ 0 (some 12) HT_.out ?_
   refine pp_ 2 (some 14) HT_.out ?_
   refine take_ (i := 1) (N := some 13) (v := ?_) (a' := ?_) #[Tt,Tt,Tt,Ff,Ff,Ff,Ff,Ff,Ff,Ff,Ff,Ff,Ff,Ff,Ff,Ff] rfl rfl (take_ofW HT_.out HW_.out (by kernel_rfl)) (fun _ _ _ h => h) (Or.inl ⟨by rfl, ?_⟩) hHeld ?_ ?_
   rotate_left
   ·rintro w' ⟨s0, s1, s2, s3⟩
    go_simp
    with_reducible rfl
   rotate_left
   ·simp only [Act.put, List.setIfInBounds_toArray, List.set_cons_zero, List.set_cons_succ, i64_w, i32_w]
    rfl
   refine pp_ 3 (some 15) HT_.out ?_
   refine take_ (i := 4) (N := some 16) (v := ?_) (a' := ?_) #[Tt,Tt,Tt,Tt,Tt,Ff,Ff,Ff,Ff,Ff,Ff,Ff,Ff,Ff,Ff,Ff] rfl rfl (take_ofW HT_.out HW_.out (by kernel_rfl)) (fun _ _ _ h => h) (Or.inl ⟨by rfl, ?_⟩) hHeld ?_ ?_
   rotate_left
   ·rintro w' ⟨s0, s1, s2, s3⟩
    go_simp
    with_reducible rfl
   rotate_left
   ·simp only [Act.put, List.setIfInBounds_toArray, List.set_cons_zero, List.set_cons_succ, i64_w, i32_w]
    rfl
   refine pp_ 5 (some 17) HT_.out ?_
   refine pp_ 6 (some 18) HT_.out ?_
   refine pp_ 7 (some 19) HT_.out ?_
   refine pp_ 9 (some 21) HT_.out ?_
   refine pp_ 10 (some 22) HT_.out ?_
   refine take_ (i := 8) (N := some 20) (v := ?_) (a' := ?_) #[Tt,Tt,Tt,Tt,Tt,Tt,Tt,Tt,Tt,Tt,Tt,Ff,Ff,Ff,Ff,Ff] rfl rfl (take_ofW HT_.out HW_.out (by kernel_rfl)) (fun _ _ _ h => h) (Or.inl ⟨by rfl, ?_⟩) hHeld ?_ ?_
   rotate_left
   ·rintro w' ⟨s0, s1, s2, s3⟩
    go_simp
    with_reducible rfl
   rotate_left
   ·simp only [Act.put, List.setIfInBounds_toArray, List.set_cons_zero, List.set_cons_succ, i64_w, i32_w]
    rfl
   refine pp_ 11 (some 23) HT_.out ?_
   refine take_ (i := 12) (N := some 24) (v := ?_) (a' := ?_) #[Tt,Tt,Tt,Tt,Tt,Tt,Tt,Tt,Tt,Tt,Tt,Tt,Tt,Ff,Ff,Ff] rfl rfl (take_ofW HT_.out HW_.out (by kernel_rfl)) (fun _ _ _ h => h) (Or.inl ⟨by rfl, ?_⟩) hHeld ?_ ?_
   rotate_left
   ·rintro w' ⟨s0, s1, s2, s3⟩
    go_simp
    with_reducible rfl
   rotate_left
   ·simp only [Act.put, List.setIfInBounds_toArray, List.set_cons_zero, List.set_cons_succ, i64_w, i32_w]
    rfl
   refine one_ (i := 13) (N := some 25) #[Tt,Tt,Tt,Tt,Tt,Tt,Tt,Tt,Tt,Tt,Tt,Tt,Tt,Tt,Ff,Ff] rfl rfl (one_of HT_.out (by kernel_rfl)) (by decide) (fun K hK => ?_)
   refine goes_ Tryd.func55 (by kernel_rfl) rfl #[.agg #[.string bh, .int .u64 bf, .slice (some bi) bd.length bm]] (by rfl) rfl rfl (by (try simp only [List.map_toArray, List.map_cons, List.map_nil]); first | done | rfl | (simp only [List.length_drop, List.length_take]; rfl)) ?_
   with_reducible refine (postroomref10_Low.calls k1 bh bf _ _ bd bu _ ?side1 ?side2 A8.out).mono ?_
   (case side1 => repeat (first | exact (Kd.C_below bx.out HB.out) | (with_reducible refine Kd.C_alloc ?_ _) | (with_reducible refine Kd.C_drewN ?_ _) | (with_reducible refine Kd.C_drew ?_)))
   (case side2 => exact bD.out)
   rintro e w18 ⟨rfl, hb⟩
   refine ⟨_, rfl, ?_⟩
   replace bj := Aside0.mk (Kd.R_below (by (with_reducible repeat (first | apply Kd.R_alloc | apply Kd.R_drewN | apply Kd.R_drew)); exact bj.out) hb)
   replace ba := Aside0.mk (blk_below (g := bg) (o := .cells #[.string bh, .int .u64 bf, .slice (some bi) bd.length bm] 84 (0, 0)) zx21_2 hb)
   replace HB := Aside0.mk (below_step zx21_0 hb)
   (try clear hb)
   (try clear hb2)
   (try clear hk)
   (try clear hi)
   refine hK.out _ _ ⟨(blk_cell ba.out 0).trans rfl, (blk_cell ba.out 1).trans rfl, (blk_cell ba.out 2).trans rfl, ((HB.out.cell (World.block_lt_of_cell? w _ be)).trans be)⟩ (fun hHeld => ?_)
   clear hK K
   refine na_ 25 ?_
   refine pp_ 14 (some 26) HT_.out ?_
   refine pp_ 15 (some 27) HT_.out ?_
   refine done_ (done_of HT_.out (by kernel_rfl)) ?_
   try go_wp2
   go_roundg k1
   case measure => have := HK1.out; omega
   case rel => exact ⟨(bo), (wrap64 (bc + 1)), (by first | rfl | (simp; done) | (simp [*]; done)), H', ⟨by have := HK1.out; omega⟩, ⟨by (with_reducible repeat (first | apply Kd.R_alloc | apply Kd.R_drewN | apply Kd.R_drew)); exact bj.out⟩, ⟨by (with_reducible repeat (first | refine blk_drewN ?_ _ | refine blk_drew ?_ | refine blk_alloc ?_ _)); exact ba.out⟩, ⟨by repeat (first | (with_reducible first | exact HB.out | apply below_alloc | apply pw_below_drewN | apply below_drew1 | refine below_set ?_ br.out) | exact HB.out)⟩⟩
  rw [if_pos c9] at H
  have de : decide (bu < (IntKind.u64.wrap (bf + (IntKind.u64.wrap (bc))))) = true := decide_eq_true c9
  clear c9
  by_cases c10 : bo.length < 17592186044416
  case neg =>
   rw [if_neg c10] at H
   exact absurd H (by simp)
  rw [if_pos c10] at H
  have bH := Aside0.mk c10
  clear c10
  obtain ⟨bE, bw⟩ : ∃ y_ : List Int, y_ = (bo ++ [IntKind.u64.wrap (bf + (IntKind.u64.wrap (bc)))]) := ⟨_, rfl⟩
  replace H : (postroomref10_Above.l0 k1 bE (wrap64 (bc + 1)) bh bf bd) = some r := by first | (rw [bw]; with_reducible exact H) | (have H2_ := (Option.bind_some _ _).symm.trans H; rw [bw]; with_reducible exact H2_) | (have H2_ := (Option.bind_some _ _).symm.trans H; with_reducible exact H2_) | with_reducible exact H | (rw [bw]; exact H) | exact H
  have bG := Aside0.mk bw
  clear bw
  have H' := Aside0.mk H
  clear H
  obtain ⟨b7, b6, b5, bV, bU, bS⟩ := cx21_bc3 ba.out
  try go_wp2
  replace bj := Aside0.mk (Kd.R_drew bj.out)
  replace ba := Aside0.mk (blk_drew ba.out)
  replace HB := Aside0.mk (below_drew1 HB.out)
  have bq : 0 ≤ (bc : Int) := of_decide_eq_true zx21_3
  have bp : bc < (bd.length : Int) := of_decide_eq_true zx21_3
  obtain ⟨bi, bz, bb⟩ := Kd.at_int bx.out bc bq bp
  have be := bb
  cases bz
  replace bb := (HB.out.cell (World.block_lt_of_cell? w _ bb)).trans bb
  replace bq := eq_true bq
  replace bp := eq_true bp
  refine start_ (n := 16) (S := fun w' => w'.cell? ⟨bg, 0, none⟩ = some (.string bh) ∧ w'.cell? ⟨bg, 1, none⟩ = some (.int .u64 bf) ∧ w'.cell? ⟨bg, 2, none⟩ = some (.slice (some bi) bd.length bm) ∧ w'.cell? (bi.add (bc).toNat) = some (.int .u8 (rd bd bc))) (ds := []) #[Ff,Ff,Ff,Ff,Ff,Ff,Ff,Ff,Ff,Ff,Ff,Ff,Ff,Ff,Ff,Ff] (by kernel_rfl) rfl rfl ⟨(blk_cell ba.out 0).trans rfl, (blk_cell ba.out 1).trans rfl, (blk_cell ba.out 2).trans rfl, ((HB.out.cell (World.block_lt_of_cell? w _ be)).trans be)⟩ (fun hHeld => ?_); refine with_tabW postroomref10_Above.tab5 postroomref10_Above.bits5 (fun HT_ HW_ => ?_)
  generalize wr.drew = w12 at bj ba HB bb hHeld ⊢
  refine pp_ 0 (some 12) HT_.out ?_
  refine pp_ 2 (some 14) HT_.out ?_
  refine take_ (i := 1) (N := some 13) (v := ?_) (a' := ?_) #[Tt,Tt,Tt,Ff,Ff,Ff,Ff,Ff,Ff,Ff,Ff,Ff,Ff,Ff,Ff,Ff] rfl rfl (take_ofW HT_.out HW_.out (by kernel_rfl)) (fun _ _ _ h => h) (Or.inl ⟨by rfl, ?_⟩) hHeld ?_ ?_
  rotate_left
  ·rintro w' ⟨s0, s1, s2, s3⟩
   go_simp
   with_reducible rfl
  rotate_left
  ·simp only [Act.put, List.setIfInBounds_toArray, List.set_cons_zero, List.set_cons_succ, i64_w, i32_w]
   rfl
  refine pp_ 3 (some 15) HT_.out ?_
  refine take_ (i := 4) (N := some 16) (v := ?_) (a' := ?_) #[Tt,Tt,Tt,Tt,Tt,Ff,Ff,Ff,Ff,Ff,Ff,Ff,Ff,Ff,Ff,Ff] rfl rfl (take_ofW HT_.out HW_.out (by kernel_rfl)) (fun _ _ _ h => h) (Or.inl ⟨by rfl, ?_⟩) hHeld ?_ ?_
  rotate_left
  ·rintro w' ⟨s0, s1, s2, s3⟩
   go_simp
   with_reducible rfl
  rotate_left
  ·simp only [Act.put, List.setIfInBounds_toArray, List.set_cons_zero, List.set_cons_succ, i64_w, i32_w]
   rfl
  refine pp_ 5 (some 17) HT_.out ?_
  refine pp_ 6 (some 18) HT_.out ?_
  refine pp_ 7 (some 19) HT_.out ?_
  refine pp_ 9 (some 21) HT_.out ?_
  refine pp_ 10 (some 22) HT_.out ?_
  refine take_ (i := 8) (N := some 20) (v := ?_) (a' := ?_) #[Tt,Tt,Tt,Tt,Tt,Tt,Tt,Tt,Tt,Tt,Tt,Ff,Ff,Ff,Ff,Ff] rfl rfl (take_ofW HT_.out HW_.out (by kernel_rfl)) (fun _ _ _ h => h) (Or.inl ⟨by rfl, ?_⟩) hHeld ?_ ?_
  rotate_left
  ·rintro w' ⟨s0, s1, s2, s3⟩
   go_simp
   with_reducible rfl
  rotate_left
  ·simp only [Act.put, List.setIfInBounds_toArray, List.set_cons_zero, List.set_cons_succ, i64_w, i32_w]
   rfl
  refine pp_ 11 (some 23) HT_.out ?_
  refine take_ (i := 12) (N := some 24) (v := ?_) (a' := ?_) #[Tt,Tt,Tt,Tt,Tt,Tt,Tt,Tt,Tt,Tt,Tt,Tt,Tt,Ff,Ff,Ff] rfl rfl (take_ofW HT_.out HW_.out (by kernel_rfl)) (fun _ _ _ h => h) (Or.inl ⟨by rfl, ?_⟩) hHeld ?_ ?_
  rotate_left
  ·rintro w' ⟨s0, s1, s2, s3⟩
   go_simp
   with_reducible rfl
  rotate_left
  ·simp only [Act.put, List.setIfInBounds_toArray, List.set_cons_zero, List.set_cons_succ, i64_w, i32_w]
   rfl
  refine one_ (i := 13) (N := some 25) #[Tt,Tt,Tt,Tt,Tt,Tt,Tt,Tt,Tt,Tt,Tt,Tt,Tt,Tt,Ff,Ff] rfl rfl (one_of HT_.out (by kernel_rfl)) (by decide) (fun K hK => ?_)
  refine goes_ Tryd.func55 (by kernel_rfl) rfl #[.agg #[.string bh, .int .u64 bf, .slice (some bi) bd.length bm]] (by rfl) rfl rfl (by (try simp only [List.map_toArray, List.map_cons, List.map_nil]); first | done | rfl | (simp only [List.length_drop, List.length_take]; rfl)) ?_
  with_reducible refine (postroomref10_Low.calls k1 bh bf _ _ bd bu _ ?side1 ?side2 A8.out).mono ?_
  (case side1 => repeat (first | exact (Kd.C_below bx.out HB.out) | (with_reducible refine Kd.C_alloc ?_ _) | (with_reducible refine Kd.C_drewN ?_ _) | (with_reducible refine Kd.C_drew ?_)))
  (case side2 => exact bD.out)
  rintro e w13 ⟨rfl, hb⟩
  refine ⟨_, rfl, ?_⟩
  replace bj := Aside0.mk (Kd.R_below (by (with_reducible repeat (first | apply Kd.R_alloc | apply Kd.R_drewN | apply Kd.R_drew)); exact bj.out) hb)
  replace ba := Aside0.mk (blk_below (g := bg) (o := .cells #[.string bh, .int .u64 bf, .slice (some bi) bd.length bm] 84 (0, 0)) zx21_2 hb)
  replace HB := Aside0.mk (below_step zx21_0 hb)
  (try clear hb)
  (try clear hb2)
  (try clear hk)
  (try clear hi)
  refine hK.out _ _ ⟨(blk_cell ba.out 0).trans rfl, (blk_cell ba.out 1).trans rfl, (blk_cell ba.out 2).trans rfl, ((HB.out.cell (World.block_lt_of_cell? w _ be)).trans be)⟩ (fun hHeld => ?_)
  clear hK K
  refine na_ 25 ?_
  refine pp_ 14 (some 26) HT_.out ?_
  refine pp_ 15 (some 27) HT_.out ?_
  refine done_ (done_of HT_.out (by kernel_rfl)) ?_
  obtain ⟨b4, b3, b2, bR, bQ, bP⟩ := cx21_bc3 ba.out
  try go_wp2_with (first | ((with_reducible refine gate_builtin (b := .append) (xs := #[.tmp 28, .tmp 34]) rfl ?_); at_builtin; refine Kd.R_append (Kd.int .u64) (w0 := w) w.heap.size rfl (.tmp 28) (.tmp 34) 35 24 (.int .u64 0) 8 rfl Tryd.underlying35 info24 rfl (by decide) (by omega) u3 bo (IntKind.u64.wrap (bf + (IntKind.u64.wrap (bc)))) [.int .u64 (IntKind.u64.wrap (bf + (IntKind.u64.wrap (bc))))] (fun _ => True) (fun _ => False) rfl rfl ?aP (fun _ hk => hk.elim) ?aF ?aO ?aB ?aS ?aL ?_; (case aP => exact rfl); (case aB => exact zx21_0); (case aF => exact (fun _ _ => trivial)); (case aO => exact (by (with_reducible repeat (first | apply Kd.R_alloc | apply Kd.R_drewN | apply Kd.R_drew)); exact bj.out)); (case aS => exact (below_size zx21_0)); (case aL => have := bH.out; omega); intro dj w15 ho hb hg hat; rw [← bG.out] at ho; have n0_ := Aside0.mk (blk_grown (g := bg) (o := .cells #[.string bh, .int .u64 bf, .slice (some bi) bd.length bm] 84 (0, 0)) zx21_2 hg (Kd.R_ne bj.out ba.out (by decide))); have n1_ := Aside0.mk (hb); have n2_ := Aside0.mk (ho); clear ba; clear HB; clear bj; have ba := n0_; have HB := n1_; have bI := n2_; clear n0_ n1_ n2_; clear ho hb hg hat))
  go_roundg k1
  case measure => have := HK1.out; omega
  case rel => exact ⟨(bE), (wrap64 (bc + 1)), (by first | rfl | (simp; done) | (simp [*]; done)), H', ⟨by have := HK1.out; omega⟩, ⟨by (with_reducible repeat (first | apply Kd.R_alloc | apply Kd.R_drewN | apply Kd.R_drew)); exact bI.out⟩, ⟨by (with_reducible repeat (first | refine blk_drewN ?_ _ | refine blk_drew ?_ | refine blk_alloc ?_ _)); exact ba.out⟩, ⟨by repeat (first | (with_reducible first | exact HB.out | apply below_alloc | apply pw_below_drewN | apply below_drew1 | refine below_set ?_ br.out) | exact HB.out)⟩⟩
end Go.Proofs.YthhmpjapnkilcaaDoor.XLdg
end
section
/- What the functions of the translation answer, each as a plain Lean function, and that the code comes to it; for a law: its row. Conditions: none but those that each theorem names. Written by a program of this session (wip/xp). -/
namespace Go.Proofs.YthhmpjapnkilcaaDoor.XLdg
open Go.RowKit Go.Proofs.YthhmpjapnkilcaaDoorW.PrintWords Go.Proofs.YthhmpjapnkilcaaDoorW.PrintLast Go.Proofs.YthhmpjapnkilcaaDoorW.PrintMore
attribute [local go_sem] max2_int min2_int max_two min_two max_three min_three max_four min_four   -- for this text's walks alone
set_option linter.unusedVariables false
set_option linter.unusedSimpArgs false

/-! ### postroomref10_Count: function 57 -/
theorem cx22_bc3 {w : World} {g : Nat} {t : TypeId} {x0 x1 x2 : Value} (h : w.heap[g]? = some (.cells #[x0, x1, x2] t (0, 0))) : w.cell? ⟨g, 0, none⟩ = some x0 ∧ w.cell? ⟨g, 1, none⟩ = some x1 ∧ w.cell? ⟨g, 2, none⟩ = some x2 ∧ w.frozen? ⟨g, 0, none⟩ = false ∧ w.frozen? ⟨g, 1, none⟩ = false ∧ w.frozen? ⟨g, 2, none⟩ = false :=
 ⟨(blk_cell h 0).trans rfl, (blk_cell h 1).trans rfl, (blk_cell h 2).trans rfl, blk_frozen h 0, blk_frozen h 1, blk_frozen h 2⟩
def postroomref10_Count.l0 : Nat → Int → Int → Int → ByteArray → Int → List Int → Option (Int)
 | 0, _, _, _, _, _, _ => none
 | k + 1, x1, x5, x6, bk, bj, bd => if x6 < (bd.length : Int) then (if 0 ≤ x6 then (if (rd bd x6) = x1 then (postroomref10_Count.l0 k x1 (IntKind.u64.wrap (x5 + 1)) (wrap64 (x6 + 1)) bk bj bd) else (postroomref10_Count.l0 k x1 x5 (wrap64 (x6 + 1)) bk bj bd)) else (none)) else (some x5)
def postroomref10_Count.f (k : Nat) (bg : ByteArray) (bf : Int) (bb : List Int) (a1 : Int) : Option (Int) := postroomref10_Count.l0 k a1 0 0 bg bf bb
set_option maxHeartbeats 8000000 in
set_option maxRecDepth 100000 in
theorem postroomref10_Count.calls (k : Nat) (bg : ByteArray) (bf : Int) (bp : Option Addr) (bo : Nat) (bb : List Int) (a1 : Int) (r : Int) (w : World) (bq : Kd.C (Kd.int .u8) w bp bb.length bb) (br : bb.length ≤ bo) (h : postroomref10_Count.f k bg bf bb a1 = some r) :
  Calls Tryd.prog 57 #[.agg #[.string bg, .int .u64 bf, .slice bp bb.length bo], .int .u8 a1] w fun e w' => e = .returned (.int .u64 r) ∧ Below w.heap.size w w' := by
 have bY := Tryd.underlying84
 have bu := Aside0.mk bq
 have bW := Aside0.mk br
 clear bq br
 have HB := Aside0.mk (Below.refl w.heap.size w)
 have H : (postroomref10_Count.l0 k a1 0 0 bg bf bb) = some r := h
 clear h
 have H' := Aside0.mk H
 clear H
 go_enter Tryd.func57, Tryd.ntmps57
 go_wp2_with (first | ((with_reducible refine gate_dst (N := 2) rfl ?_); refine box_event ?hg (N := 2) ?hd (cs := #[.string bg, .int .u64 bf, .slice bp bb.length bo]) (t := 84) ?hr ?_; (case hd => rfl); (case hg => rfl); (case hr => first | (go_simp; done) | (go_simp; rfl)); intro bn hg w3 hbox hb; have be := Aside0.mk (hbox); have bX := Aside0.mk ((by rw [hg]; exact (below_size (by repeat (first | (with_reducible first | exact HB.out | apply below_alloc | apply pw_below_drewN | apply below_drew1) | exact HB.out))) : w.heap.size ≤ bn)); have bl := Aside0.mk ((by rw [hg]; exact (below_size (by repeat (first | (with_reducible first | exact HB.out | apply below_alloc | apply pw_below_drewN | apply below_drew1) | exact HB.out))) : w.heap.size ≤ bn)); replace HB := Aside0.mk (below_step (by repeat (first | (with_reducible first | exact HB.out | apply below_alloc | apply pw_below_drewN | apply below_drew1) | exact HB.out)) hb); clear hb hbox hg))
 go_loopg [5, 6] k (fun kq v5 v6 w' => ∃ (bm : Int) (ba : Int), v5 = .int .u64 bm ∧ v6 = .int .i64 ba ∧ Aside0 (postroomref10_Count.l0 kq a1 bm ba bg bf bb = some r) ∧ Aside0 (kq ≤ k) ∧ Aside0 (w'.heap[bn]? = some (.cells #[.string bg, .int .u64 bf, (.slice bp bb.length bo)] 84 (0, 0))) ∧ Aside0 (Below w.heap.size w w'))
 case atStart => exact ⟨(0), (0), (by first | rfl | (simp; done) | (simp [*]; done)), (by first | rfl | (simp; done) | (simp [*]; done)), H', ⟨Nat.le_refl _⟩, ⟨by (with_reducible repeat (first | refine blk_drewN ?_ _ | refine blk_drew ?_ | refine blk_alloc ?_ _)); exact be.out⟩, ⟨by repeat (first | (with_reducible first | exact HB.out | apply below_alloc | apply pw_below_drewN | apply below_drew1 | refine below_set ?_ bl.out) | exact HB.out)⟩⟩
 case round =>
  clear H'
  (try clear p2)
  obtain ⟨bm, ba, rfl, rfl, HA, HK1, be, HB⟩ := hrel
  cases gk with
  | zero => exact absurd HA.out (by simp [postroomref10_Count.l0])
  | succ k1 => ?_
  have H := HA.out
  clear HA
  simp only [postroomref10_Count.l0] at H
  by_cases c4 : ba < (bb.length : Int)
  case neg =>
   rw [if_neg c4] at H
   have bV : decide (ba < (bb.length : Int)) = false := decide_eq_false c4
   clear c4
   obtain rfl := Option.some.inj H
   obtain ⟨bL, bK, bJ, bB, bA, bz⟩ := cx22_bc3 be.out
   go_wp2
   go_ret
   exact ⟨by first | rfl | (simp [errW_none, errW_some] <;> rfl) | (simp [*, errW_none, errW_some] <;> rfl), by repeat (first | (with_reducible first | exact HB.out | apply below_alloc | apply pw_below_drewN | apply below_drew1 | refine below_set ?_ bl.out) | exact HB.out)⟩

  rw [if_pos c4] at H
  have bV : decide (ba < (bb.length : Int)) = true := decide_eq_true c4
  clear c4
  by_cases c5 : 0 ≤ ba
  case neg =>
   rw [if_neg c5] at H
   exact absurd H (by simp)
  rw [if_pos c5] at H
  have bZ : decide (0 ≤ ba) = true := decide_eq_true c5
  clear c5
  by_cases c6 : (rd bb ba) = a1
  case neg =>
   rw [if_neg c6] at H
   have bU : ((rd bb ba) == a1) = false := beq_eq_false_iff_ne.mpr c6
   have bS : ((rd bb ba) != a1) = true := bne_iff_ne.mpr c6
   have H' := Aside0.mk H
   clear H
   obtain ⟨bO, bN, bM, bE, bD, bC⟩ := cx22_bc3 be.out
   have bi : 0 ≤ (ba : Int) := of_decide_eq_true (by first | (with_reducible assumption) | assumption)
   have bh : ba < (bb.length : Int) := of_decide_eq_true (by first | (with_reducible assumption) | assumption)
   obtain ⟨bx, bw, bc⟩ := Kd.at_int bu.out ba bi bh
   cases bw
   replace bc := (HB.out.cell (World.block_lt_of_cell? w _ bc)).trans bc
   replace bi := eq_true bi
   replace bh := eq_true bh
   go_wp2
   go_roundg k1
   case measure => have := HK1.out; omega
   case rel => exact ⟨(bm), (wrap64 (ba + 1)), (by first | rfl | (simp; done) | (simp [*]; done)), (by first | rfl | (simp; done) | (simp [*]; done)), H', ⟨by have := HK1.out; omega⟩, ⟨by (with_reducible repeat (first | refine blk_drewN ?_ _ | refine blk_drew ?_ | refine blk_alloc ?_ _)); exact be.out⟩, ⟨by repeat (first | (with_reducible first | exact HB.out | apply below_alloc | apply pw_below_drewN | apply below_drew1 | refine below_set ?_ bl.out) | exact HB.out)⟩⟩
  rw [if_pos c6] at H
  have bU : ((rd bb ba) == a1) = true := beq_iff_eq.mpr c6
  have bS : ((rd bb ba) != a1) = false := bne_eq_false_iff_eq.mpr c6
  clear c6
  have H' := Aside0.mk H
  clear H
  obtain ⟨bR, bQ, bP, bI, bH, bG⟩ := cx22_bc3 be.out
  have bi : 0 ≤ (ba : Int) := of_decide_eq_true (by first | (with_reducible assumption) | assumption)
  have bh : ba < (bb.length : Int) := of_decide_eq_true (by first | (with_reducible assumption) | assumption)
  obtain ⟨bx, bw, bc⟩ := Kd.at_int bu.out ba bi bh
  cases bw
  replace bc := (HB.out.cell (World.block_lt_of_cell? w _ bc)).trans bc
  replace bi := eq_true bi
  replace bh := eq_true bh
  go_wp2
  go_roundg k1
  case measure => have := HK1.out; omega
  case rel => exact ⟨(IntKind.u64.wrap (bm + 1)), (wrap64 (ba + 1)), (by first | rfl | (simp; done) | (simp [*]; done)), (by first | rfl | (simp; done) | (simp [*]; done)), H', ⟨by have := HK1.out; omega⟩, ⟨by (with_reducible repeat (first | refine blk_drewN ?_ _ | refine blk_drew ?_ | refine blk_alloc ?_ _)); exact be.out⟩, ⟨by repeat (first | (with_reducible first | exact HB.out | apply below_alloc | apply pw_below_drewN | apply below_drew1 | refine below_set ?_ bl.out) | exact HB.out)⟩⟩
end Go.Proofs.YthhmpjapnkilcaaDoor.XLdg
end
section
/- What the functions of the translation answer, each as a plain Lean function, and that the code comes to it; for a law: its row. Conditions: none but those that each theorem names. Written by a program of this session (wip/xp). -/
namespace Go.Proofs.YthhmpjapnkilcaaDoor.XLdg
open Go.RowKit Go.Proofs.YthhmpjapnkilcaaDoorW.PrintWords Go.Proofs.YthhmpjapnkilcaaDoorW.PrintLast Go.Proofs.YthhmpjapnkilcaaDoorW.PrintMore
attribute [local go_sem] max2_int min2_int max_two min_two max_three min_three max_four min_four   -- for this text's walks alone
set_option linter.unusedVariables false
set_option linter.unusedSimpArgs false

/-! ### postroomref10_Same: function 21 -/
def postroomref10_Same.l0 : Nat → List Int → List Int → Int → Option (Bool)
 | 0, _, _, _ => none
 | k + 1, x0, x1, x5 => if x5 < (x0.length : Int) then (if 0 ≤ x5 then (if x5 < (x1.length : Int) then (if (rd x0 x5) = (rd x1 x5) then (postroomref10_Same.l0 k x0 x1 (wrap64 (x5 + 1))) else (some false)) else (none)) else (none)) else (some true)
def postroomref10_Same.f (k : Nat) (l0 : List Int) (l1 : List Int) : Option (Bool) := if (l0.length : Int) = (l1.length : Int) then (postroomref10_Same.l0 k l0 l1 0) else (some false)
theorem postroomref10_Same.mono_l : ∀ k, (∀ y0 y1 y2, LeO (postroomref10_Same.l0 k y0 y1 y2) (postroomref10_Same.l0 (k + 1) y0 y1 y2))
 | 0 => fun _ _ _ r h => by simp [postroomref10_Same.l0] at h
 | k + 1 => by
  have ih0 := postroomref10_Same.mono_l k
  ·intro y0 y1 y2
   unfold postroomref10_Same.l0
   repeat' first
   | (with_reducible exact ih0 _ _ _)
   | (with_reducible exact LeO.refl _)
   | (with_reducible exact LeO.none _)
   | (with_reducible refine LeO.ite ?_ ?_)
   | (with_reducible refine LeO.bind ?_ (fun _ => ?_))
   | exact ih0 _ _ _
   | exact LeO.none _
   | refine LeO.ite ?_ ?_
   | refine LeO.bind ?_ (fun _ => ?_)
theorem postroomref10_Same.mono : ∀ a0 a1 k, LeO (postroomref10_Same.f k a0 a1) (postroomref10_Same.f (k + 1) a0 a1) := by
 intro a0 a1 k
 have ih0 := postroomref10_Same.mono_l k
 unfold postroomref10_Same.f
 repeat' first
   | (with_reducible exact ih0 _ _ _)
   | (with_reducible exact LeO.refl _)
   | (with_reducible exact LeO.none _)
   | (with_reducible refine LeO.ite ?_ ?_)
   | (with_reducible refine LeO.bind ?_ (fun _ => ?_))
   | exact ih0 _ _ _
   | exact LeO.none _
   | refine LeO.ite ?_ ?_
   | refine LeO.bind ?_ (fun _ => ?_)
set_option maxHeartbeats 8000000 in
set_option maxRecDepth 100000 in
theorem postroomref10_Same.calls (k : Nat) (A0 : Option Addr) (c0 : Nat) (l0 : List Int) (A1 : Option Addr) (c1 : Nat) (l1 : List Int) (r : Bool) (w : World) (hr0 : Kd.C (Kd.int .u64) w A0 l0.length l0) (hc0 : l0.length ≤ c0) (hr1 : Kd.C (Kd.int .u64) w A1 l1.length l1) (hc1 : l1.length ≤ c1) (h : postroomref10_Same.f k l0 l1 = some r) :
  Calls Tryd.prog 21 #[.slice A0 l0.length c0, .slice A1 l1.length c1] w fun e w' => e = .returned (.bool r) ∧ Drawn0 w w' := by
 have HR0 := Aside0.mk hr0
 have HC0 := Aside0.mk hc0
 clear hr0 hc0
 have HR1 := Aside0.mk hr1
 have HC1 := Aside0.mk hc1
 clear hr1 hc1
 have H : (if (l0.length : Int) = (l1.length : Int) then (postroomref10_Same.l0 k l0 l1 0) else (some false)) = some r := h
 clear h
 by_cases c3 : (l0.length : Int) = (l1.length : Int)
 case neg =>
  rw [if_neg c3] at H
  have bl : ((l0.length : Int) == (l1.length : Int)) = false := beq_eq_false_iff_ne.mpr c3
  have bk : ((l0.length : Int) != (l1.length : Int)) = true := bne_iff_ne.mpr c3
  have bj : (l0.length == l1.length) = false := by first | simpa using c3 | (simp at c3 ⊢; omega)
  obtain rfl := Option.some.inj H
  go_enter Tryd.func21, Tryd.ntmps21
  go_wp2
  repeat (go_quiet (fail); try go_wp2)
  go_ret
  exact ⟨by first | rfl | (simp; done) | (simp [*]; done), by repeat (first | exact Drawn0.refl _ | apply Drawn0.step)⟩

 rw [if_pos c3] at H
 have bl : ((l0.length : Int) == (l1.length : Int)) = true := beq_iff_eq.mpr c3
 have bk : ((l0.length : Int) != (l1.length : Int)) = false := bne_eq_false_iff_eq.mpr c3
 have bj : (l0.length == l1.length) = true := by first | simpa using c3 | (simp at c3 ⊢; omega)
 clear c3
 have H' := Aside0.mk H
 clear H
 go_enter Tryd.func21, Tryd.ntmps21
 go_wp2
 repeat (go_quiet (fail); try go_wp2)
 go_loopg [5] k (fun kq v5 w' => ∃ (ba : Int), v5 = .int .i64 ba ∧ Aside0 (postroomref10_Same.l0 kq l0 l1 ba = some r) ∧ Aside0 (kq ≤ k) ∧ Drawn0 w w')
 case atStart => exact ⟨(0), (by first | rfl | (simp; done) | (simp [*]; done)), H', ⟨Nat.le_refl _⟩, by repeat (first | exact Drawn0.refl _ | apply Drawn0.step)⟩
 case round =>
  clear H'
  (try clear c1); (try clear c2); (try clear p2); (try clear c3); (try clear bl); (try clear bk); (try clear bj)
  obtain ⟨ba, rfl, HA, HK1, ⟨m1, rfl⟩⟩ := hrel
  cases gk with
  | zero => exact absurd HA.out (by simp [postroomref10_Same.l0])
  | succ k1 => ?_
  have H := HA.out
  clear HA
  simp only [postroomref10_Same.l0] at H
  by_cases c4 : ba < (l0.length : Int)
  case neg =>
   rw [if_neg c4] at H
   have bq : decide (ba < (l0.length : Int)) = false := decide_eq_false c4
   clear c4
   obtain rfl := Option.some.inj H
   go_wp2
   repeat (go_quiet (fail); try go_wp2)
   go_ret
   exact ⟨by first | rfl | (simp; done) | (simp [*]; done), by repeat (first | exact Drawn0.refl _ | apply Drawn0.step)⟩
  rw [if_pos c4] at H
  have bq : decide (ba < (l0.length : Int)) = true := decide_eq_true c4
  clear c4
  by_cases c5 : 0 ≤ ba
  case neg =>
   rw [if_neg c5] at H
   exact absurd H (by simp)
  rw [if_pos c5] at H
  have bu : decide (0 ≤ ba) = true := decide_eq_true c5
  clear c5
  by_cases c6 : ba < (l1.length : Int)
  case neg =>
   rw [if_neg c6] at H
   exact absurd H (by simp)
  rw [if_pos c6] at H
  have br : decide (ba < (l1.length : Int)) = true := decide_eq_true c6
  clear c6
  by_cases c7 : (rd l0 ba) = (rd l1 ba)
  case neg =>
   rw [if_neg c7] at H
   have bp : ((rd l0 ba) == (rd l1 ba)) = false := beq_eq_false_iff_ne.mpr c7
   have bo : ((rd l0 ba) != (rd l1 ba)) = true := bne_iff_ne.mpr c7
   obtain rfl := Option.some.inj H
   have be : 0 ≤ (ba : Int) := of_decide_eq_true (by first | (with_reducible assumption) | assumption)
   have bc : ba < (l0.length : Int) := of_decide_eq_true (by first | (with_reducible assumption) | assumption)
   obtain ⟨bn, bi, bg⟩ := Kd.at_int HR0.out ba be bc
   cases bi
   replace be := eq_true be
   replace bc := eq_true bc
   have bd : 0 ≤ (ba : Int) := of_decide_eq_true (by first | (with_reducible assumption) | assumption)
   have bb : ba < (l1.length : Int) := of_decide_eq_true (by first | (with_reducible assumption) | assumption)
   obtain ⟨bm, bh, bf⟩ := Kd.at_int HR1.out ba bd bb
   cases bh
   replace bd := eq_true bd
   replace bb := eq_true bb
   go_wp2
   repeat (go_quiet (fail); try go_wp2)
   go_ret
   exact ⟨by first | rfl | (simp; done) | (simp [*]; done), by repeat (first | exact Drawn0.refl _ | apply Drawn0.step)⟩
  rw [if_pos c7] at H
  have bp : ((rd l0 ba) == (rd l1 ba)) = true := beq_iff_eq.mpr c7
  have bo : ((rd l0 ba) != (rd l1 ba)) = false := bne_eq_false_iff_eq.mpr c7
  clear c7
  have H' := Aside0.mk H
  clear H
  have be : 0 ≤ (ba : Int) := of_decide_eq_true (by first | (with_reducible assumption) | assumption)
  have bc : ba < (l0.length : Int) := of_decide_eq_true (by first | (with_reducible assumption) | assumption)
  obtain ⟨bn, bi, bg⟩ := Kd.at_int HR0.out ba be bc
  cases bi
  replace be := eq_true be
  replace bc := eq_true bc
  have bd : 0 ≤ (ba : Int) := of_decide_eq_true (by first | (with_reducible assumption) | assumption)
  have bb : ba < (l1.length : Int) := of_decide_eq_true (by first | (with_reducible assumption) | assumption)
  obtain ⟨bm, bh, bf⟩ := Kd.at_int HR1.out ba bd bb
  cases bh
  replace bd := eq_true bd
  replace bb := eq_true bb
  go_wp2
  repeat (go_quiet (fail); try go_wp2)
  go_roundg k1
  case measure => have := HK1.out; omega
  case rel => exact ⟨(wrap64 (ba + 1)), (by first | rfl | (simp; done) | (simp [*]; done)), H', ⟨by have := HK1.out; omega⟩, by repeat (first | exact Drawn0.refl _ | apply Drawn0.step)⟩
end Go.Proofs.YthhmpjapnkilcaaDoor.XLdg
end
section
/- What the functions of the translation answer, each as a plain Lean function, and that the code comes to it; for a law: its row. Conditions: none but those that each theorem names. Written by a program of this session (wip/xp). -/
namespace Go.Proofs.YthhmpjapnkilcaaDoor.XLdg
open Go.RowKit Go.Proofs.YthhmpjapnkilcaaDoorW.PrintWords Go.Proofs.YthhmpjapnkilcaaDoorW.PrintLast Go.Proofs.YthhmpjapnkilcaaDoorW.PrintMore
attribute [local go_sem] max2_int min2_int max_two min_two max_three min_three max_four min_four   -- for this text's walks alone
set_option linter.unusedVariables false
set_option linter.unusedSimpArgs false

/-! ### postroomref10_New: function 26 -/
def postroomref10_New.f  : Option (Int × Int × (List (S84))) := some (1, 1, ([] : List (S84)))
set_option maxHeartbeats 8000000 in
set_option maxRecDepth 100000 in
theorem postroomref10_New.calls  (r1 : Int) (r2 : Int) (r3 : List (S84)) (w : World) (h : postroomref10_New.f  = some (r1, r2, r3)) :
  Calls Tryd.prog 26 #[] w fun e w' => ∃ v2_ : Value, e = .returned (.agg #[.int .u64 r1, .int .u64 r2, v2_]) ∧ Kd.S k84 84 w' w.heap.size (fun _ => True) v2_ r3 ∧ Below w.heap.size w w' := by
 have bB := Tryd.underlying57
 have HB := Aside0.mk (Below.refl w.heap.size w)
 have H : (some (1, 1, ([] : List (S84)))) = some (r1, r2, r3) := h
 clear h
 simp only [Option.some.injEq, Prod.mk.injEq] at H
 obtain ⟨rfl, rfl, rfl⟩ := H
 go_enter Tryd.func26, Tryd.ntmps26
 go_wp2_with (first | ((with_reducible refine gate_dst (N := 0) rfl ?_); refine box_event ?hg (N := 0) ?hd (cs := #[.int .u64 0, .int .u64 0, .slice none 0 0]) (t := 57) ?hr ?_; (case hd => rfl); (case hg => rfl); (case hr => first | (go_simp; done) | (go_simp; rfl)); intro bd hg w1 hbox hb; have bc := Aside0.mk (hbox); have bz := Aside0.mk ((by rw [hg]; exact (below_size (by repeat (first | (with_reducible first | exact HB.out | apply below_alloc | apply pw_below_drewN | apply below_drew1) | exact HB.out))) : w.heap.size ≤ bd)); have bk := Aside0.mk ((by rw [hg]; exact (below_size (by repeat (first | (with_reducible first | exact HB.out | apply below_alloc | apply pw_below_drewN | apply below_drew1) | exact HB.out))) : w.heap.size ≤ bd)); replace HB := Aside0.mk (below_step (by repeat (first | (with_reducible first | exact HB.out | apply below_alloc | apply pw_below_drewN | apply below_drew1) | exact HB.out)) hb); clear hb hbox hg; have br : w1.cell? ⟨bd, 0, none⟩ = some (.int .u64 0) := (blk_cell bc.out 0).trans rfl; have bq : w1.cell? ⟨bd, 1, none⟩ = some (.int .u64 0) := (blk_cell bc.out 1).trans rfl; have bp : w1.cell? ⟨bd, 2, none⟩ = some (.slice none 0 0) := (blk_cell bc.out 2).trans rfl; have bo := blk_frozen bc.out 0; have bn := blk_frozen bc.out 1; have bm := blk_frozen bc.out 2))
 refine bodyPost_ret (results_cell_row rfl _ _ bd 57 #[.int .u64 1, .int .u64 1, .slice none 0 0] (0, 0) _ rfl (by (with_reducible repeat (first | refine blk_drewN ?_ _ | refine blk_drew ?_ | refine blk_alloc ?_ _)); refine blk_put (cs := #[.int .u64 1, .int .u64 1, .slice none 0 0]) ?_ 2 _ rfl; (with_reducible repeat (first | refine blk_drewN ?_ _ | refine blk_drew ?_ | refine blk_alloc ?_ _)); refine blk_put (cs := #[.int .u64 1, .int .u64 0, .slice none 0 0]) ?_ 1 _ rfl; (with_reducible repeat (first | refine blk_drewN ?_ _ | refine blk_drew ?_ | refine blk_alloc ?_ _)); refine blk_put (cs := #[.int .u64 0, .int .u64 0, .slice none 0 0]) ?_ 0 _ rfl; (with_reducible repeat (first | refine blk_drewN ?_ _ | refine blk_drew ?_ | refine blk_alloc ?_ _)); exact bc.out) Tryd.underlying57 rfl (by kernel_rfl)) rfl ?_
 exact ⟨_, by first | rfl | (simp [errW_none, errW_some] <;> rfl) | (simp [*, errW_none, errW_some] <;> rfl), by first | exact Kd.S_nil _ _ _ _ _ | exact Kd.N_nil _ _ _ _ _ | exact Kd.V_nil _ _ _ _ _ | exact Kd.Q_nil _ _ _ _ _ | exact Kd.R_nil _ _ _ _ _, by repeat (first | (with_reducible first | exact HB.out | apply below_alloc | apply pw_below_drewN | apply below_drew1 | refine below_set ?_ bk.out) | exact HB.out)⟩

/-! ### postroomlaw10_pick: function 15 -/
def postroomlaw10_pick.f (a0 : Int) (a1 : Int) : Option (Int) := if a0 < 0 then (if a1 = 0 then (none) else (some (Int.tmod (wrap64 (-(wrap64 (a0 + 1)))) a1))) else (if a1 = 0 then (none) else (some (Int.tmod a0 a1)))
set_option maxHeartbeats 8000000 in
set_option maxRecDepth 100000 in
theorem postroomlaw10_pick.calls (a0 : Int) (a1 : Int) (r : Int) (w : World) (h : postroomlaw10_pick.f a0 a1 = some r) :
  Calls Tryd.prog 15 #[.int .i64 a0, .int .i64 a1] w fun e w' => e = .returned (.int .i64 r) ∧ Drawn0 w w' := by
 have H : (if a0 < 0 then (if a1 = 0 then (none) else (some (Int.tmod (wrap64 (-(wrap64 (a0 + 1)))) a1))) else (if a1 = 0 then (none) else (some (Int.tmod a0 a1)))) = some r := h
 clear h
 by_cases c3 : a0 < 0
 ·rw [if_pos c3] at H
  have bj : decide (a0 < 0) = true := decide_eq_true c3
  clear c3
  by_cases c4 : a1 = 0
  ·rw [if_pos c4] at H
   exact absurd H (by simp)
  rw [if_neg c4] at H
  have bw : (a1 == 0) = false := beq_eq_false_iff_ne.mpr c4
  have bE : (a1 != 0) = true := bne_iff_ne.mpr c4
  obtain rfl := Option.some.inj H
  go_enter Tryd.func15, Tryd.ntmps15
  go_wp2
  go_ret
  exact ⟨by first | rfl | (simp; done) | (simp [*]; done), by repeat (first | exact Drawn0.refl _ | apply Drawn0.step)⟩
 rw [if_neg c3] at H
 have bj : decide (a0 < 0) = false := decide_eq_false c3
 clear c3
 by_cases c5 : a1 = 0
 ·rw [if_pos c5] at H
  exact absurd H (by simp)
 rw [if_neg c5] at H
 have bD : (a1 == 0) = false := beq_eq_false_iff_ne.mpr c5
 have bC : (a1 != 0) = true := bne_iff_ne.mpr c5
 obtain rfl := Option.some.inj H
 go_enter Tryd.func15, Tryd.ntmps15
 go_wp2
 go_ret
 exact ⟨by first | rfl | (simp; done) | (simp [*]; done), by repeat (first | exact Drawn0.refl _ | apply Drawn0.step)⟩

/-! ### postroomlaw10_name: function 12 -/
def postroomlaw10_name.f (a0 : Int) : Option (ByteArray) := (some (([(⟨#[97]⟩ : ByteArray), (⟨#[98]⟩ : ByteArray), (⟨#[99]⟩ : ByteArray), (⟨#[100]⟩ : ByteArray), (⟨#[101]⟩ : ByteArray), (⟨#[49]⟩ : ByteArray)] : List ByteArray) : List ByteArray)).bind fun bb => ((postroomlaw10_pick.f a0 6).bind fun ba => (if 0 ≤ ba then (if ba < (bb.length : Int) then (some (rdOf ByteArray.empty bb ba)) else (none)) else (none)))
set_option maxHeartbeats 8000000 in
set_option maxRecDepth 100000 in
theorem postroomlaw10_name.calls (a0 : Int) (r : ByteArray) (w : World) (h : postroomlaw10_name.f a0 = some r) :
  Calls Tryd.prog 12 #[.int .i64 a0] w fun e w' => e = .returned (.string r) ∧ Below w.heap.size w w' := by
 have HB := Aside0.mk (Below.refl w.heap.size w)
 have H : ((some (([(⟨#[97]⟩ : ByteArray), (⟨#[98]⟩ : ByteArray), (⟨#[99]⟩ : ByteArray), (⟨#[100]⟩ : ByteArray), (⟨#[101]⟩ : ByteArray), (⟨#[49]⟩ : ByteArray)] : List ByteArray) : List ByteArray)).bind fun bb => ((postroomlaw10_pick.f a0 6).bind fun ba => (if 0 ≤ ba then (if ba < (bb.length : Int) then (some (rdOf ByteArray.empty bb ba)) else (none)) else (none)))) = some r := h
 clear h
 obtain ⟨bb, be⟩ : ∃ y_ : List ByteArray, y_ = (([(⟨#[97]⟩ : ByteArray), (⟨#[98]⟩ : ByteArray), (⟨#[99]⟩ : ByteArray), (⟨#[100]⟩ : ByteArray), (⟨#[101]⟩ : ByteArray), (⟨#[49]⟩ : ByteArray)] : List ByteArray)) := ⟨_, rfl⟩
 replace H : ((postroomlaw10_pick.f a0 6).bind fun ba => (if 0 ≤ ba then (if ba < (bb.length : Int) then (some (rdOf ByteArray.empty bb ba)) else (none)) else (none))) = some r := by first | (rw [be]; with_reducible exact H) | (have H2_ := (Option.bind_some _ _).symm.trans H; rw [be]; with_reducible exact H2_) | (have H2_ := (Option.bind_some _ _).symm.trans H; with_reducible exact H2_) | with_reducible exact H | (rw [be]; exact H) | exact H
 have bf := Aside0.mk be
 clear be
 replace H := Option.bind_eq_some_iff.mp H
 obtain ⟨ba, A20, H⟩ := H
 replace H : (if 0 ≤ ba then (if ba < (bb.length : Int) then (some (rdOf ByteArray.empty bb ba)) else (none)) else (none)) = some r := H
 have A2 := Aside0.mk A20
 clear A20
 by_cases c3 : 0 ≤ ba
 case neg =>
  rw [if_neg c3] at H
  exact absurd H (by simp)

 rw [if_pos c3] at H
 have bj : decide (0 ≤ ba) = true := decide_eq_true c3
 clear c3
 by_cases c4 : ba < (bb.length : Int)
 case neg =>
  rw [if_neg c4] at H
  exact absurd H (by simp)
 rw [if_pos c4] at H
 have bw : decide (ba < (bb.length : Int)) = true := decide_eq_true c4
 clear c4
 obtain rfl := Option.some.inj H
 go_enter Tryd.func12, Tryd.ntmps12
 go_wp2_with (first | ((with_reducible refine gate_dst (N := 3) rfl ?_); refine Kd.R_lit Kd.string _ 9 ?hg (N := 3) ?hd (xs := ([(⟨#[97]⟩ : ByteArray), (⟨#[98]⟩ : ByteArray), (⟨#[99]⟩ : ByteArray), (⟨#[100]⟩ : ByteArray), (⟨#[101]⟩ : ByteArray), (⟨#[49]⟩ : ByteArray)] : List ByteArray)) (inner := [.string (⟨#[97]⟩ : ByteArray), .string (⟨#[98]⟩ : ByteArray), .string (⟨#[99]⟩ : ByteArray), .string (⟨#[100]⟩ : ByteArray), .string (⟨#[101]⟩ : ByteArray), .string (⟨#[49]⟩ : ByteArray)]) (ok := fun _ => True) (okp := fun _ => True) ?hr ?hp (fun _ hk => hk) trivial (Below.refl _ _) (Nat.le_refl _) (by simp) ?_; (case hd => rfl); (case hg => rfl); (case hr => first | (go_simp; done) | (go_simp; rfl)); (case hp => exact (Reps.one (show Kd.M Kd.string _ _ _ (⟨#[97]⟩ : ByteArray) [.string (⟨#[97]⟩ : ByteArray)] from rfl) (Reps.one (show Kd.M Kd.string _ _ _ (⟨#[98]⟩ : ByteArray) [.string (⟨#[98]⟩ : ByteArray)] from rfl) (Reps.one (show Kd.M Kd.string _ _ _ (⟨#[99]⟩ : ByteArray) [.string (⟨#[99]⟩ : ByteArray)] from rfl) (Reps.one (show Kd.M Kd.string _ _ _ (⟨#[100]⟩ : ByteArray) [.string (⟨#[100]⟩ : ByteArray)] from rfl) (Reps.one (show Kd.M Kd.string _ _ _ (⟨#[101]⟩ : ByteArray) [.string (⟨#[101]⟩ : ByteArray)] from rfl) (Reps.one (show Kd.M Kd.string _ _ _ (⟨#[49]⟩ : ByteArray) [.string (⟨#[49]⟩ : ByteArray)] from rfl) (Reps.none _ _)))))))); intro bA w5 ho6 hb hg_ hnew_; clear hg_ hnew_; (first | rw [← bf.out] at ho6 | (simp only [Int.reduceToNat] at ho6; rw [← bf.out] at ho6)); have bg := Aside0.mk (Kd.R_lower ho6 (below_size (by repeat (first | (with_reducible first | exact HB.out | apply below_alloc | apply pw_below_drewN | apply below_drew1) | exact HB.out)))); replace HB := Aside0.mk (below_step (by repeat (first | (with_reducible first | exact HB.out | apply below_alloc | apply pw_below_drewN | apply below_drew1) | exact HB.out)) hb); clear hb ho6) | ((with_reducible refine gate_callee (f := 15) rfl ?_); refine goesL_ (some 5) rfl rfl Tryd.func15 (by kernel_rfl) rfl #[.int .i64 a0, .int .i64 6] rfl (by (try simp only [List.map_toArray, List.map_cons, List.map_nil]); first | done | rfl | (simp only [List.length_drop, List.length_take]; rfl)) ?_; (with_reducible refine (postroomlaw10_pick.calls a0 6 ba _ A2.out).mono ?_); rintro e w' ⟨rfl, ⟨nd, rfl⟩⟩; refine ⟨_, rfl, ?_⟩; obtain ⟨Ao7, co7, eo7⟩ := Kd.R_slice bg.out; subst eo7; have bi : 0 ≤ (ba : Int) := of_decide_eq_true (by first | (with_reducible assumption) | assumption); have bh : ba < (bb.length : Int) := of_decide_eq_true (by first | (with_reducible assumption) | assumption); obtain ⟨bx, bu, bl⟩ := Kd.at_string (Kd.R_reads' bg.out).2.2 ba bi bh; cases bu; replace bi := eq_true bi; replace bh := eq_true bh))
 go_ret
 exact ⟨by first | rfl | (simp [errW_none, errW_some] <;> rfl) | (simp [*, errW_none, errW_some] <;> rfl), by repeat (first | (with_reducible first | exact HB.out | apply below_alloc | apply pw_below_drewN | apply below_drew1) | exact HB.out)⟩
-- NOT PRINTED: function 32 (ledger_Dest_32)

end Go.Proofs.YthhmpjapnkilcaaDoor.XLdg
end
section
/- What the functions of the translation answer, each as a plain Lean function, and that the code comes to it; for a law: its row. Conditions: none but those that each theorem names. Written by a program of this session (wip/xp). -/
namespace Go.Proofs.YthhmpjapnkilcaaDoor.XLdg
open Go.RowKit Go.Proofs.YthhmpjapnkilcaaDoorW.PrintWords Go.Proofs.YthhmpjapnkilcaaDoorW.PrintLast Go.Proofs.YthhmpjapnkilcaaDoorW.PrintMore
attribute [local go_sem] max2_int min2_int max_two min_two max_three min_three max_four min_four   -- for this text's walks alone
set_option linter.unusedVariables false
set_option linter.unusedSimpArgs false

/-! ### ledger_New: function 25 -/
def ledger_New.f  : Option (Int × Int × (List (S37))) := some (1, 1, ([] : List (S37)))
set_option maxHeartbeats 8000000 in
set_option maxRecDepth 100000 in
theorem ledger_New.calls  (r1 : Int) (r2 : Int) (r3 : List (S37)) (w : World) (h : ledger_New.f  = some (r1, r2, r3)) :
  Calls Tryd.prog 25 #[] w fun e w' => ∃ v2_ : Value, e = .returned (.agg #[.int .u64 r1, .int .u64 r2, v2_]) ∧ Kd.S k37 37 w' w.heap.size (fun _ => True) v2_ r3 ∧ Below w.heap.size w w' := by
 have bk := Tryd.underlying27
 have HB := Aside0.mk (Below.refl w.heap.size w)
 have H : (some (1, 1, ([] : List (S37)))) = some (r1, r2, r3) := h
 clear h
 simp only [Option.some.injEq, Prod.mk.injEq] at H
 obtain ⟨rfl, rfl, rfl⟩ := H
 go_enter Tryd.func25, Tryd.ntmps25
 go_wp2_with (first | ((with_reducible refine gate_dst (N := 0) rfl ?_); refine box_event ?hg (N := 0) ?hd (cs := #[.int .u64 0, .int .u64 0, .slice none 0 0]) (t := 27) ?hr ?_; (case hd => rfl); (case hg => rfl); (case hr => first | (go_simp; done) | (go_simp; rfl)); intro bb hg w1 hbox hb; have ba := Aside0.mk (hbox); have bj := Aside0.mk ((by rw [hg]; exact (below_size (by repeat (first | (with_reducible first | exact HB.out | apply below_alloc | apply pw_below_drewN | apply below_drew1) | exact HB.out))) : w.heap.size ≤ bb)); have bc := Aside0.mk ((by rw [hg]; exact (below_size (by repeat (first | (with_reducible first | exact HB.out | apply below_alloc | apply pw_below_drewN | apply below_drew1) | exact HB.out))) : w.heap.size ≤ bb)); replace HB := Aside0.mk (below_step (by repeat (first | (with_reducible first | exact HB.out | apply below_alloc | apply pw_below_drewN | apply below_drew1) | exact HB.out)) hb); clear hb hbox hg; have bi : w1.cell? ⟨bb, 0, none⟩ = some (.int .u64 0) := (blk_cell ba.out 0).trans rfl; have bh : w1.cell? ⟨bb, 1, none⟩ = some (.int .u64 0) := (blk_cell ba.out 1).trans rfl; have bg : w1.cell? ⟨bb, 2, none⟩ = some (.slice none 0 0) := (blk_cell ba.out 2).trans rfl; have bf := blk_frozen ba.out 0; have be := blk_frozen ba.out 1; have bd := blk_frozen ba.out 2))
 refine bodyPost_ret (results_cell_row rfl _ _ bb 27 #[.int .u64 1, .int .u64 1, .slice none 0 0] (0, 0) _ rfl (by (with_reducible repeat (first | refine blk_drewN ?_ _ | refine blk_drew ?_ | refine blk_alloc ?_ _)); refine blk_put (cs := #[.int .u64 1, .int .u64 1, .slice none 0 0]) ?_ 2 _ rfl; (with_reducible repeat (first | refine blk_drewN ?_ _ | refine blk_drew ?_ | refine blk_alloc ?_ _)); refine blk_put (cs := #[.int .u64 1, .int .u64 0, .slice none 0 0]) ?_ 1 _ rfl; (with_reducible repeat (first | refine blk_drewN ?_ _ | refine blk_drew ?_ | refine blk_alloc ?_ _)); refine blk_put (cs := #[.int .u64 0, .int .u64 0, .slice none 0 0]) ?_ 0 _ rfl; (with_reducible repeat (first | refine blk_drewN ?_ _ | refine blk_drew ?_ | refine blk_alloc ?_ _)); exact ba.out) Tryd.underlying27 rfl (by kernel_rfl)) rfl ?_
 exact ⟨_, by first | rfl | (simp [errW_none, errW_some] <;> rfl) | (simp [*, errW_none, errW_some] <;> rfl), by first | exact Kd.S_nil _ _ _ _ _ | exact Kd.N_nil _ _ _ _ _ | exact Kd.V_nil _ _ _ _ _ | exact Kd.Q_nil _ _ _ _ _ | exact Kd.R_nil _ _ _ _ _, by repeat (first | (with_reducible first | exact HB.out | apply below_alloc | apply pw_below_drewN | apply below_drew1 | refine below_set ?_ bc.out) | exact HB.out)⟩

end Go.Proofs.YthhmpjapnkilcaaDoor.XLdg
end
section
/- What the functions of the translation answer, each as a plain Lean function, and that the code comes to it; for a law: its row. Conditions: none but those that each theorem names. Written by a program of this session (wip/xp). -/
namespace Go.Proofs.YthhmpjapnkilcaaDoor.XLdg
open Go.RowKit Go.Proofs.YthhmpjapnkilcaaDoorW.PrintWords Go.Proofs.YthhmpjapnkilcaaDoorW.PrintLast Go.Proofs.YthhmpjapnkilcaaDoorW.PrintMore
attribute [local go_sem] max2_int min2_int max_two min_two max_three min_three max_four min_four   -- for this text's walks alone
set_option linter.unusedVariables false
set_option linter.unusedSimpArgs false

/-! ### ledger_Free: function 22 -/
def ledger_Free.l0 : Nat → Int → List (S37) → Int → Int → Option (Int)
 | 0, _, _, _, _ => none
 | k + 1, x3, x9, x10, x11 => if x11 < x10 then (if 0 ≤ x11 then (if x11 < (x9.length : Int) then (ledger_Free.l0 k (mn x3 ((rd_T37 x9 x11).f2)) x9 x10 (wrap64 (x11 + 1))) else (none)) else (none)) else (some x3)
def ledger_Free.f (k : Nat) (bq : Int) (bg : Int) (ba : List (S37)) : Option (Int) := ledger_Free.l0 k bg ba (ba.length : Int) 0
end Go.Proofs.YthhmpjapnkilcaaDoor.XLdg
end
