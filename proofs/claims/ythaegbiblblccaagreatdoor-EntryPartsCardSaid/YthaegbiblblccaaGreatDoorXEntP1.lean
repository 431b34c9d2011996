/- Texts of this seat, in one. Conditions: those that each theorem names. -/
import Derived.Test.YthaegbiblblccaaGreatDoorProg
import Derived.Below
import Derived.Deep.Draws
import Derived.Deep.AppendLies
import Derived.Maps.AppendAt
import Derived.OwnWalk
import Derived.Laws.BytesArg
import Derived.Laws.MakeOwn
import Derived.Laws.OwnMore
import Derived.Deep.OwnRows
import Derived.Tactics
import Derived.Lib.ConvBytes
import Derived.Laws.Slices
import Derived.WalkKit
import Derived.KernelRfl
import Derived.RowKit3
import Derived.Deep.LoopGhost
import Derived.Deep.QuietTactic
import Derived.BigQuiet
import Derived.WideLaws
import Derived.Deep.DeepCutAuto
import Derived.Deep.CutBlock
import Derived.Deep.RegionHeld3
import Derived.Laws.Rows
import Derived.Lib.AppendStr
import Derived.ArgAppend
import Derived.Laws.IdiomCopy
import Derived.OrdersHeld
import Derived.Laws.BitsLemmas
import Derived.RowKit
import Derived.Test.YthaegbiblblccaaGreatDoorOwnA
import Derived.Test.YthaegbiblblccaaGreatDoorWCore
import Derived.Test.YthaegbiblblccaaGreatDoorWRest
section
/- What the functions of the translation answer, each as a plain Lean function, and that the code comes to it; for a law: its row. Conditions: none but those that each theorem names. Written by a program of this session (wip/xp). -/
namespace Go.Proofs.YthaegbiblblccaaGreatDoor.XEnt
open Go.RowKit Go.Proofs.YthaegbiblblccaaGreatDoorW.PrintWords Go.Proofs.YthaegbiblblccaaGreatDoorW.PrintLast Go.Proofs.YthaegbiblblccaaGreatDoorW.PrintMore
attribute [local go_sem] max2_int min2_int max_two min_two max_three min_three max_four min_four   -- for this text's walks alone

set_option linter.unusedVariables false
set_option linter.unusedSimpArgs false



def errW : Option Int → Value
  | none => .nilIface
  | some c => .iface 0 (.int .i64 c)
theorem errW_none : errW none = .nilIface := rfl
theorem errW_some (c : Int) : errW (some c) = .iface 0 (.int .i64 c) := rfl

theorem info5 : (Tryz.prog.info? 5).map (fun i => (i.zero, i.size, i.bytes)) = some (some (.int .u8 0), 1, 1) := by kernel_rfl
theorem info52 : (Tryz.prog.info? 52).map (fun i => (i.zero, i.size, i.bytes)) = some (some (.agg #[(.string ⟨#[]⟩), (.string ⟨#[]⟩)]), 2, 32) := by kernel_rfl
theorem info54 : (Tryz.prog.info? 54).map (fun i => (i.zero, i.size, i.bytes)) = some (some (.agg #[(.int .u64 0), (.int .i64 0)]), 2, 16) := by kernel_rfl
-- the values' own types
/-! #### struct type 52 -/
structure S52 where
  f0 : ByteArray
  f1 : ByteArray
def z52 : S52 := ⟨(⟨#[]⟩ : ByteArray), (⟨#[]⟩ : ByteArray)⟩
def k52 : Kd S52 := Kd.iso (Kd.pair Kd.string Kd.string) (fun x : S52 => (x.f0, x.f1))
theorem k52_open {w : World} {x : S52} {cs : List Value} (h : k52.K w x cs) : cs = [.string x.f0, .string x.f1] := by
  obtain ⟨_, _, rfl, rfl, rfl⟩ := h
  exact rfl
theorem k52_openM {w : World} {base : Nat} {ok : Nat → Prop} {x : S52} {cs : List Value} (h : k52.M w base ok x cs) : cs = [.string x.f0, .string x.f1] := by
  obtain ⟨_, _, rfl, rfl, rfl⟩ := h
  exact rfl
theorem k52_mkM (w : World) (base : Nat) (ok : Nat → Prop) (x : S52)  : k52.M w base ok x [.string x.f0, .string x.f1] := ⟨[.string x.f0], [.string x.f1], rfl, rfl, rfl⟩
def rd_T52 (xs : List S52) (i : Int) : S52 := xs.getD i.toNat z52
theorem at_T52 {w : World} {A : Option Addr} {n : Nat} {xs : List S52} (h : Kd.C k52 w A n xs) (i : Int) (h0 : 0 ≤ i) (h1 : i < n) : ∃ ad , A = some ad ∧ w.cell? (ad.add (i.toNat * 2)) = some (.string (rd_T52 xs i).f0) ∧ w.cell? ⟨(ad.add (i.toNat * 2)).block, (ad.add (i.toNat * 2)).off + 1, none⟩ = some (.string (rd_T52 xs i).f1) := by
  obtain ⟨ad, c, e, _, hK, hc0⟩ := Kd.C_get h z52 i h0 h1
  have hc : ∀ j u, c[j]? = some u → w.cell? (ad.add (i.toNat * 2 + j)) = some u := hc0
  obtain rfl := k52_open hK
  exact ⟨ad, e, hc 0 _ rfl, by rw [← add_field _ _ 1 (by omega)]; exact hc 1 _ rfl⟩

/-! #### struct type 54 -/
structure S54 where
  f0 : Int
  f1 : Int
def z54 : S54 := ⟨(0 : Int), (0 : Int)⟩
def k54 : Kd S54 := Kd.iso (Kd.pair (Kd.int .u64) (Kd.int .i64)) (fun x : S54 => (x.f0, x.f1))
theorem k54_open {w : World} {x : S54} {cs : List Value} (h : k54.K w x cs) : cs = [.int .u64 x.f0, .int .i64 x.f1] := by
  obtain ⟨_, _, rfl, rfl, rfl⟩ := h
  exact rfl
theorem k54_mkM (w : World) (base : Nat) (ok : Nat → Prop) (x : S54)  : k54.M w base ok x [.int .u64 x.f0, .int .i64 x.f1] := ⟨[.int .u64 x.f0], [.int .i64 x.f1], rfl, rfl, rfl⟩
def rd_T54 (xs : List S54) (i : Int) : S54 := xs.getD i.toNat z54
theorem at_T54 {w : World} {A : Option Addr} {n : Nat} {xs : List S54} (h : Kd.C k54 w A n xs) (i : Int) (h0 : 0 ≤ i) (h1 : i < n) : ∃ ad , A = some ad ∧ w.cell? (ad.add (i.toNat * 2)) = some (.int .u64 (rd_T54 xs i).f0) ∧ w.cell? ⟨(ad.add (i.toNat * 2)).block, (ad.add (i.toNat * 2)).off + 1, none⟩ = some (.int .i64 (rd_T54 xs i).f1) := by
  obtain ⟨ad, c, e, _, hK, hc0⟩ := Kd.C_get h z54 i h0 h1
  have hc : ∀ j u, c[j]? = some u → w.cell? (ad.add (i.toNat * 2 + j)) = some u := hc0
  obtain rfl := k54_open hK
  exact ⟨ad, e, hc 0 _ rfl, by rw [← add_field _ _ 1 (by omega)]; exact hc 1 _ rfl⟩

/-! #### struct type 25 -/
structure S25 where
  f0 : (List S52)
  f1 : (List S54)
/-! #### struct type 43 -/
structure S43 where
  f0 : ByteArray
  f1 : ByteArray
  f2 : Bool
def z43 : S43 := ⟨(⟨#[]⟩ : ByteArray), (⟨#[]⟩ : ByteArray), false⟩
def k43 : Kd S43 := Kd.iso (Kd.pair Kd.string (Kd.pair Kd.string Kd.bool)) (fun x : S43 => (x.f0, x.f1, x.f2))
theorem k43_open {w : World} {x : S43} {cs : List Value} (h : k43.K w x cs) : cs = [.string x.f0, .string x.f1, .bool x.f2] := by
  obtain ⟨_, _, rfl, rfl, ⟨_, _, rfl, rfl, rfl⟩⟩ := h
  exact rfl
theorem k43_mkM (w : World) (base : Nat) (ok : Nat → Prop) (x : S43)  : k43.M w base ok x [.string x.f0, .string x.f1, .bool x.f2] := ⟨[.string x.f0], [.string x.f1, .bool x.f2], rfl, rfl, ⟨[.string x.f1], [.bool x.f2], rfl, rfl, rfl⟩⟩
def rd_T43 (xs : List S43) (i : Int) : S43 := xs.getD i.toNat z43
theorem at_T43 {w : World} {A : Option Addr} {n : Nat} {xs : List S43} (h : Kd.C k43 w A n xs) (i : Int) (h0 : 0 ≤ i) (h1 : i < n) : ∃ ad , A = some ad ∧ w.cell? (ad.add (i.toNat * 3)) = some (.string (rd_T43 xs i).f0) ∧ w.cell? ⟨(ad.add (i.toNat * 3)).block, (ad.add (i.toNat * 3)).off + 1, none⟩ = some (.string (rd_T43 xs i).f1) ∧ w.cell? ⟨(ad.add (i.toNat * 3)).block, (ad.add (i.toNat * 3)).off + 2, none⟩ = some (.bool (rd_T43 xs i).f2) := by
  obtain ⟨ad, c, e, _, hK, hc0⟩ := Kd.C_get h z43 i h0 h1
  have hc : ∀ j u, c[j]? = some u → w.cell? (ad.add (i.toNat * 3 + j)) = some u := hc0
  obtain rfl := k43_open hK
  exact ⟨ad, e, hc 0 _ rfl, by rw [← add_field _ _ 1 (by omega)]; exact hc 1 _ rfl, by rw [← add_field _ _ 2 (by omega)]; exact hc 2 _ rfl⟩

end Go.Proofs.YthaegbiblblccaaGreatDoor.XEnt
end
section
/- What the functions of the translation answer, each as a plain Lean function, and that the code comes to it; for a law: its row. Conditions: none but those that each theorem names. Written by a program of this session (wip/xp). -/
namespace Go.Proofs.YthaegbiblblccaaGreatDoor.XEnt
open Go.RowKit Go.Proofs.YthaegbiblblccaaGreatDoorW.PrintWords Go.Proofs.YthaegbiblblccaaGreatDoorW.PrintLast Go.Proofs.YthaegbiblblccaaGreatDoorW.PrintMore
attribute [local go_sem] max2_int min2_int max_two min_two max_three min_three max_four min_four   -- for this text's walks alone
theorem zx7_0 {p : Prop} (h : p := by repeat (first | (with_reducible first | exact HB.out | apply below_alloc | apply pw_below_drewN | apply below_drew1) | exact HB.out)) : p := h
set_option linter.unusedVariables false
set_option linter.unusedSimpArgs false

-- NOT PRINTED: function 81 (abi_NoEscape)

-- NOT PRINTED: function 66 (strings_Builder_copyCheck)

-- NOT PRINTED: function 42 (strings_Builder_WriteString)

/-! ### num_Put: function 43 -/
def num_Put.l0 : Nat → Int → List Int → Option (ByteArray)
  | 0, _, _ => none
  | k + 1, x0, x3 => if x0 ≥ 128 then (if x3.length < 140737488355328 then (num_Put.l0 k (x0 / 128) (x3 ++ [Go.bits .or .u8 ((x0) % 256) 128])) else (none)) else (if x3.length < 140737488355328 then (some (strOfNums (x3 ++ [(x0) % 256]))) else (none))
def num_Put.f (k : Nat) (a0 : Int) : Option (ByteArray) := num_Put.l0 k a0 ([] : List Int)
theorem num_Put.mono_l : ∀ k, (∀ y0 y1, LeO (num_Put.l0 k y0 y1) (num_Put.l0 (k + 1) y0 y1))
  | 0 => fun _ _ r h => by simp [num_Put.l0] at h
  | k + 1 => by
    have ih0 := num_Put.mono_l k
    · intro y0 y1
      unfold num_Put.l0
      repeat' first
      | (with_reducible exact ih0 _ _)
      | (with_reducible exact LeO.refl _)
      | (with_reducible exact LeO.none _)
      | (with_reducible refine LeO.ite ?_ ?_)
      | (with_reducible refine LeO.bind ?_ (fun _ => ?_))
      | exact ih0 _ _
      | exact LeO.none _
      | refine LeO.ite ?_ ?_
      | refine LeO.bind ?_ (fun _ => ?_)
theorem num_Put.mono : ∀ a0 k, LeO (num_Put.f k a0) (num_Put.f (k + 1) a0) := by
  intro a0 k
  have ih0 := num_Put.mono_l k
  unfold num_Put.f
  repeat' first
      | (with_reducible exact ih0 _ _)
      | (with_reducible exact LeO.refl _)
      | (with_reducible exact LeO.none _)
      | (with_reducible refine LeO.ite ?_ ?_)
      | (with_reducible refine LeO.bind ?_ (fun _ => ?_))
      | exact ih0 _ _
      | exact LeO.none _
      | refine LeO.ite ?_ ?_
      | refine LeO.bind ?_ (fun _ => ?_)
set_option maxHeartbeats 8000000 in
set_option maxRecDepth 100000 in
theorem num_Put.calls (k : Nat) (a0 : Int) (r : ByteArray) (w : World) (h : num_Put.f k a0 = some r) :
    Calls Tryz.prog 43 #[.int .u64 a0] w fun e w' => e = .returned (.string r) ∧ Below w.heap.size w w' := by
  have HB := Aside0.mk (Below.refl w.heap.size w)
  have H : (num_Put.l0 k a0 ([] : List Int)) = some r := h
  clear h
  have H' := Aside0.mk H
  clear H
  go_enter Tryz.func43, Tryz.ntmps43
  go_wp2
  go_loopg [0, 3] k (fun kq v0 v3 w' => ∃ (x0_1 : Int) (x3_1 : List Int), v0 = .int .u64 x0_1 ∧ Aside0 (num_Put.l0 kq x0_1 x3_1 = some r) ∧ Aside0 (kq ≤ k) ∧ Aside0 (Kd.R (Kd.int .u8) 5 w' w.heap.size (fun _ => True) v3 x3_1) ∧ Aside0 (Below w.heap.size w w'))
  case atStart => exact ⟨(a0), (([] : List Int)), (by first | rfl | (simp; done) | (simp [*]; done)), H', ⟨Nat.le_refl _⟩, ⟨by first | exact Kd.R_nil _ _ _ _ _ | exact Kd.N_nil _ _ _ _ _ | exact Kd.V_nil _ _ _ _ _ | exact Kd.Q_nil _ _ _ _ _ | exact Kd.S_nil _ _ _ _ _⟩, ⟨by repeat (first | (with_reducible first | exact HB.out | apply below_alloc | apply pw_below_drewN | apply below_drew1) | exact HB.out)⟩⟩
  case round =>
    clear H'
    obtain ⟨x0_1, x3_1, rfl, HA, HK1, HO_3, HB⟩ := hrel
    cases gk with
    | zero => exact absurd HA.out (by simp [num_Put.l0])
    | succ k1 =>
      have H := HA.out
      clear HA
      simp only [num_Put.l0] at H
      by_cases c2 : x0_1 ≥ 128
      · rw [if_pos c2] at H
        have c2b0 : decide (128 ≤ x0_1) = true := decide_eq_true c2
        clear c2
        by_cases c3 : x3_1.length < 140737488355328
        · rw [if_pos c3] at H
          have LMc3 := Aside0.mk c3
          clear c3
          obtain ⟨y119, hy119⟩ : ∃ y_ : List Int, y_ = (x3_1 ++ [Go.bits .or .u8 ((x0_1) % 256) 128]) := ⟨_, rfl⟩
          replace H : (num_Put.l0 k1 (x0_1 / 128) y119) = some r := by first | (rw [hy119]; with_reducible exact H) | (have H2_ := (Option.bind_some _ _).symm.trans H; rw [hy119]; with_reducible exact H2_) | (have H2_ := (Option.bind_some _ _).symm.trans H; with_reducible exact H2_) | with_reducible exact H | (rw [hy119]; exact H) | exact H
          have Ny119 := Aside0.mk hy119
          clear hy119
          have H' := Aside0.mk H
          clear H
          go_wp2_with (first | ((with_reducible refine gate_builtin (b := .append) (xs := #[.tmp 8, .tmp 12]) rfl ?_); at_builtin; refine Kd.R_append (Kd.int .u8) (w0 := w) w.heap.size rfl (.tmp 8) (.tmp 12) 77 5 (.int .u8 0) 1 rfl Tryz.underlying77 info5 rfl (by decide) (by omega) u3 x3_1 (Go.bits .or .u8 ((x0_1) % 256) 128) [.int .u8 (Go.bits .or .u8 ((x0_1) % 256) 128)] (fun _ => True) (fun _ => False) rfl rfl ?aP (fun _ hk => hk.elim) ?aF ?aO ?aB ?aS ?aL ?_; (case aP => exact rfl); (case aB => exact zx7_0); (case aF => exact (fun _ _ => trivial)); (case aO => exact (by (with_reducible repeat (first | apply Kd.R_alloc | apply Kd.R_drewN | apply Kd.R_drew)); exact HO_3.out)); (case aS => exact (below_size zx7_0)); (case aL => have := LMc3.out; omega); intro v120 w4 ho hb hg hat; rw [← Ny119.out] at ho; have n0_ := Aside0.mk (hb); have n1_ := Aside0.mk (ho); clear HB; clear HO_3; have HB := n0_; have HO121 := n1_; clear n0_ n1_; clear ho hb hg hat))
          go_roundg k1
          case measure => have := HK1.out; omega
          case rel => exact ⟨(x0_1 / 128), (y119), (by first | rfl | (simp; done) | (simp [*]; done)), H', ⟨by have := HK1.out; omega⟩, ⟨by (with_reducible repeat (first | apply Kd.R_alloc | apply Kd.R_drewN | apply Kd.R_drew)); exact HO121.out⟩, ⟨by repeat (first | (with_reducible first | exact HB.out | apply below_alloc | apply pw_below_drewN | apply below_drew1) | exact HB.out)⟩⟩
        · rw [if_neg c3] at H
          exact absurd H (by simp)
      · rw [if_neg c2] at H
        have c2b0 : decide (128 ≤ x0_1) = false := decide_eq_false c2
        clear c2
        by_cases c5 : x3_1.length < 140737488355328
        · rw [if_pos c5] at H
          have LMc5 := Aside0.mk c5
          clear c5
          obtain ⟨y122, hy122⟩ : ∃ y_ : List Int, y_ = (x3_1 ++ [(x0_1) % 256]) := ⟨_, rfl⟩
          replace H : (some (strOfNums y122)) = some r := by first | (rw [hy122]; with_reducible exact H) | (have H2_ := (Option.bind_some _ _).symm.trans H; rw [hy122]; with_reducible exact H2_) | (have H2_ := (Option.bind_some _ _).symm.trans H; with_reducible exact H2_) | with_reducible exact H | (rw [hy122]; exact H) | exact H
          have Ny122 := Aside0.mk hy122
          clear hy122
          obtain rfl := Option.some.inj H
          go_wp2_with (first | ((with_reducible refine gate_builtin (b := .append) (xs := #[.tmp 14, .tmp 17]) rfl ?_); at_builtin; refine Kd.R_append (Kd.int .u8) (w0 := w) w.heap.size rfl (.tmp 14) (.tmp 17) 77 5 (.int .u8 0) 1 rfl Tryz.underlying77 info5 rfl (by decide) (by omega) u3 x3_1 ((x0_1) % 256) [.int .u8 ((x0_1) % 256)] (fun _ => True) (fun _ => False) rfl rfl ?aP (fun _ hk => hk.elim) ?aF ?aO ?aB ?aS ?aL ?_; (case aP => exact rfl); (case aB => exact zx7_0); (case aF => exact (fun _ _ => trivial)); (case aO => exact (by (with_reducible repeat (first | apply Kd.R_alloc | apply Kd.R_drewN | apply Kd.R_drew)); exact HO_3.out)); (case aS => exact (below_size zx7_0)); (case aL => have := LMc5.out; omega); intro v123 w6 ho hb hg hat; rw [← Ny122.out] at ho; have n0_ := Aside0.mk (hb); have n1_ := Aside0.mk (ho); clear HB; clear HO_3; have HB := n0_; have HO124 := n1_; clear n0_ n1_; clear ho hb hg hat; have hcv7 := own_string (P := Tryz.prog) Tryz.underlying77 Tryz.underlying5 Tryz.underlying9 (Kd.own_of_R HO124.out)))
          go_ret
          exact ⟨by first | rfl | (simp [errW_none, errW_some] <;> rfl) | (simp [*, errW_none, errW_some] <;> rfl), by repeat (first | (with_reducible first | exact HB.out | apply below_alloc | apply pw_below_drewN | apply below_drew1) | exact HB.out)⟩
        · rw [if_neg c5] at H
          exact absurd H (by simp)

/-! ### num_PutText: function 44 -/
def num_PutText.f (k : Nat) (a0 : ByteArray) : Option (ByteArray) := (num_Put.f k (IntKind.u64.wrap ((a0.size : Int)))).bind fun t125 => (if t125.size + a0.size ≤ 9223372036854775807 then (some (t125 ++ a0)) else (none))
theorem num_PutText.mono : ∀ a0 k, LeO (num_PutText.f k a0) (num_PutText.f (k + 1) a0) := by
  intro a0 k
  unfold num_PutText.f
  repeat' first
      | (with_reducible exact num_Put.mono _ _)
      | (with_reducible exact LeO.refl _)
      | (with_reducible exact LeO.none _)
      | (with_reducible refine LeO.ite ?_ ?_)
      | (with_reducible refine LeO.bind ?_ (fun _ => ?_))
      | exact num_Put.mono _ _
      | exact LeO.none _
      | refine LeO.ite ?_ ?_
      | refine LeO.bind ?_ (fun _ => ?_)
set_option maxHeartbeats 8000000 in
set_option maxRecDepth 100000 in
theorem num_PutText.calls (k : Nat) (a0 : ByteArray) (r : ByteArray) (w : World) (h : num_PutText.f k a0 = some r) :
    Calls Tryz.prog 44 #[.string a0] w fun e w' => e = .returned (.string r) ∧ Below w.heap.size w w' := by
  have HB := Aside0.mk (Below.refl w.heap.size w)
  have H : ((num_Put.f k (IntKind.u64.wrap ((a0.size : Int)))).bind fun t125 => (if t125.size + a0.size ≤ 9223372036854775807 then (some (t125 ++ a0)) else (none))) = some r := h
  clear h
  replace H := Option.bind_eq_some_iff.mp H
  obtain ⟨t125, A20, H⟩ := H
  replace H : (if t125.size + a0.size ≤ 9223372036854775807 then (some (t125 ++ a0)) else (none)) = some r := H
  have A2 := Aside0.mk A20
  clear A20
  by_cases c3 : t125.size + a0.size ≤ 9223372036854775807
  · rw [if_pos c3] at H
    have c3b0 := eq_true c3
    have c3b1 : decide (t125.size + a0.size ≤ 9223372036854775807) = true := decide_eq_true c3
    try have c3b2 : (9223372036854775807 < t125.size + a0.size) = False := eq_false (Nat.not_lt.2 c3)
    clear c3
    obtain rfl := Option.some.inj H
    go_enter Tryz.func44, Tryz.ntmps44
    go_wp2_with (first | ((with_reducible refine gate_callee (f := 43) rfl ?_); refine goesL_ (some 6) rfl rfl Tryz.func43 (by kernel_rfl) rfl #[.int .u64 (IntKind.u64.wrap ((a0.size : Int)))] rfl (by (try simp only [List.map_toArray, List.map_cons, List.map_nil]); first | done | rfl | (simp only [List.length_drop, List.length_take]; rfl)) ?_; (with_reducible refine (num_Put.calls k (IntKind.u64.wrap ((a0.size : Int))) t125 _ A2.out).mono ?_); rintro e w4 ⟨rfl, hb⟩; refine ⟨_, rfl, ?_⟩; have n0_ := Aside0.mk (below_step zx7_0 hb); clear HB; have HB := n0_; clear n0_; (try clear hb); (try clear hb2); (try clear hk); (try clear hi)))
    go_ret
    exact ⟨by first | rfl | (simp [errW_none, errW_some] <;> rfl) | (simp [*, errW_none, errW_some] <;> rfl), by repeat (first | (with_reducible first | exact HB.out | apply below_alloc | apply pw_below_drewN | apply below_drew1) | exact HB.out)⟩
  · rw [if_neg c3] at H
    exact absurd H (by simp)

-- NOT PRINTED: function 45 (strings_Builder_String)

end Go.Proofs.YthaegbiblblccaaGreatDoor.XEnt
end
section
/- What the functions of the translation answer, each as a plain Lean function, and that the code comes to it; for a law: its row. Conditions: none but those that each theorem names. Written by a program of this session (wip/xp). -/
namespace Go.Proofs.YthaegbiblblccaaGreatDoor.XEnt
open Go.RowKit Go.Proofs.YthaegbiblblccaaGreatDoorW.PrintWords Go.Proofs.YthaegbiblblccaaGreatDoorW.PrintLast Go.Proofs.YthaegbiblblccaaGreatDoorW.PrintMore
attribute [local go_sem] max2_int min2_int max_two min_two max_three min_three max_four min_four   -- for this text's walks alone

set_option linter.unusedVariables false
set_option linter.unusedSimpArgs false

/-! ### num_PutInt: function 46 -/
def num_PutInt.f (k : Nat) (a0 : Int) : Option (ByteArray) := (num_Put.f k (Go.bits .xor .u64 (IntKind.u64.wrap ((IntKind.u64.wrap (a0)) * 2)) (IntKind.u64.wrap (a0 / 9223372036854775808)))).bind fun t126 => (some t126)
theorem num_PutInt.mono : ∀ a0 k, LeO (num_PutInt.f k a0) (num_PutInt.f (k + 1) a0) := by
  intro a0 k
  unfold num_PutInt.f
  repeat' first
      | (with_reducible exact num_Put.mono _ _)
      | (with_reducible exact LeO.refl _)
      | (with_reducible exact LeO.none _)
      | (with_reducible refine LeO.ite ?_ ?_)
      | (with_reducible refine LeO.bind ?_ (fun _ => ?_))
      | exact num_Put.mono _ _
      | exact LeO.none _
      | refine LeO.ite ?_ ?_
      | refine LeO.bind ?_ (fun _ => ?_)
set_option maxHeartbeats 8000000 in
set_option maxRecDepth 100000 in
theorem num_PutInt.calls (k : Nat) (a0 : Int) (r : ByteArray) (w : World) (h : num_PutInt.f k a0 = some r) :
    Calls Tryz.prog 46 #[.int .i64 a0] w fun e w' => e = .returned (.string r) ∧ Below w.heap.size w w' := by
  have HB := Aside0.mk (Below.refl w.heap.size w)
  have H : ((num_Put.f k (Go.bits .xor .u64 (IntKind.u64.wrap ((IntKind.u64.wrap (a0)) * 2)) (IntKind.u64.wrap (a0 / 9223372036854775808)))).bind fun t126 => (some t126)) = some r := h
  clear h
  replace H := Option.bind_eq_some_iff.mp H
  obtain ⟨t126, A20, H⟩ := H
  replace H : (some t126) = some r := H
  have A2 := Aside0.mk A20
  clear A20
  obtain rfl := Option.some.inj H
  go_enter Tryz.func46, Tryz.ntmps46
  go_wp2_with (first | ((with_reducible refine gate_callee (f := 43) rfl ?_); refine goesL_ (some 10) rfl rfl Tryz.func43 (by kernel_rfl) rfl #[.int .u64 (Go.bits .xor .u64 (IntKind.u64.wrap ((IntKind.u64.wrap (a0)) * 2)) (IntKind.u64.wrap (a0 / 9223372036854775808)))] rfl (by (try simp only [List.map_toArray, List.map_cons, List.map_nil]); first | done | rfl | (simp only [List.length_drop, List.length_take]; rfl)) ?_; (with_reducible refine (num_Put.calls k (Go.bits .xor .u64 (IntKind.u64.wrap ((IntKind.u64.wrap (a0)) * 2)) (IntKind.u64.wrap (a0 / 9223372036854775808))) t126 _ A2.out).mono ?_); rintro e w3 ⟨rfl, hb⟩; refine ⟨_, rfl, ?_⟩; have n0_ := Aside0.mk (below_step (by repeat (first | (with_reducible first | exact HB.out | apply below_alloc | apply pw_below_drewN | apply below_drew1) | exact HB.out)) hb); clear HB; have HB := n0_; clear n0_; (try clear hb); (try clear hb2); (try clear hk); (try clear hi)))
  go_ret
  exact ⟨by first | rfl | (simp [errW_none, errW_some] <;> rfl) | (simp [*, errW_none, errW_some] <;> rfl), by repeat (first | (with_reducible first | exact HB.out | apply below_alloc | apply pw_below_drewN | apply below_drew1) | exact HB.out)⟩

-- NOT PRINTED: function 47 (sample_changes)

end Go.Proofs.YthaegbiblblccaaGreatDoor.XEnt
end
section
/- What the functions of the translation answer, each as a plain Lean function, and that the code comes to it; for a law: its row. Conditions: none but those that each theorem names. Written by a program of this session (wip/xp). -/
namespace Go.Proofs.YthaegbiblblccaaGreatDoor.XEnt
open Go.RowKit Go.Proofs.YthaegbiblblccaaGreatDoorW.PrintWords Go.Proofs.YthaegbiblblccaaGreatDoorW.PrintLast Go.Proofs.YthaegbiblblccaaGreatDoorW.PrintMore
attribute [local go_sem] max2_int min2_int max_two min_two max_three min_three max_four min_four   -- for this text's walks alone
theorem zx30_0 {p : Prop} (h : p := by first | rfl | (simp; done) | (simp [*]; done)) : p := h
set_option linter.unusedVariables false
set_option linter.unusedSimpArgs false

/-! ### num_Take: function 68 -/
mutual
def num_Take.l0 : Nat → ByteArray → Int → Int → Int → Int → Option (Int × ByteArray × Int)
  | 0, _, _, _, _, _ => none
  | k + 1, x0, x5, x6, x10, x11 => if x11 < x10 then (if 0 ≤ x11 then (if x11 < (x0.size : Int) then (if x11 = 9 then (num_Take.j1 k x0 x5 x6 x11 (IntKind.u64.wrap (bt x0 x11)) x10 x11 (decide ((IntKind.u64.wrap (bt x0 x11)) > 1))) else (num_Take.j1 k x0 x5 x6 x11 (IntKind.u64.wrap (bt x0 x11)) x10 x11 false)) else (none)) else (none)) else (if x6 < 0 then (some (0, (⟨#[]⟩ : ByteArray), 2)) else (if 0 ≤ x6 then (if x6 ≤ (x0.size : Int) then (some (x5, x0.extract (x6 : Int).toNat x0.size, 0)) else (none)) else (none)))
def num_Take.j1 : Nat → ByteArray → Int → Int → Int → Int → Int → Int → Bool → Option (Int × ByteArray × Int)
  | 0, _, _, _, _, _, _, _, _ => none
  | k + 1, x0, x5, x6, x7, x8, x10, x11, x18 => if x18 = true then (num_Take.j2 k x0 x5 x6 x7 x8 x10 x11 x18) else (if x7 > 0 then (num_Take.j2 k x0 x5 x6 x7 x8 x10 x11 (x8 == 0)) else (num_Take.j2 k x0 x5 x6 x7 x8 x10 x11 false))
def num_Take.j2 : Nat → ByteArray → Int → Int → Int → Int → Int → Int → Bool → Option (Int × ByteArray × Int)
  | 0, _, _, _, _, _, _, _, _ => none
  | k + 1, x0, x5, x6, x7, x8, x10, x11, x18 => if x18 = true then (if x6 < 0 then (some (0, (⟨#[]⟩ : ByteArray), 2)) else (if 0 ≤ x6 then (if x6 ≤ (x0.size : Int) then (some (x5, x0.extract (x6 : Int).toNat x0.size, 0)) else (none)) else (none))) else (if x8 < 128 then (if 0 ≤ (wrap64 (7 * x7)) then (if (wrap64 (x7 + 1)) < 0 then (some (0, (⟨#[]⟩ : ByteArray), 2)) else (if 0 ≤ (wrap64 (x7 + 1)) then (if (wrap64 (x7 + 1)) ≤ (x0.size : Int) then (some (Go.bits .or .u64 x5 (shl .u64 x8 (wrap64 (7 * x7))), x0.extract ((wrap64 (x7 + 1)) : Int).toNat x0.size, 0)) else (none)) else (none))) else (none)) else (if 0 ≤ (wrap64 (7 * x7)) then (num_Take.l0 k x0 (Go.bits .or .u64 x5 (shl .u64 (Go.bits .and .u64 x8 127) (wrap64 (7 * x7)))) x6 x10 (wrap64 (x11 + 1))) else (none)))
end
def num_Take.f (k : Nat) (a0 : ByteArray) : Option (Int × ByteArray × Int) := num_Take.l0 k a0 0 (-1) (a0.size : Int) 0
theorem num_Take.mono_l : ∀ k, (∀ y0 y1 y2 y3 y4, LeO (num_Take.l0 k y0 y1 y2 y3 y4) (num_Take.l0 (k + 1) y0 y1 y2 y3 y4)) ∧ (∀ y0 y1 y2 y3 y4 y5 y6 y7, LeO (num_Take.j1 k y0 y1 y2 y3 y4 y5 y6 y7) (num_Take.j1 (k + 1) y0 y1 y2 y3 y4 y5 y6 y7)) ∧ (∀ y0 y1 y2 y3 y4 y5 y6 y7, LeO (num_Take.j2 k y0 y1 y2 y3 y4 y5 y6 y7) (num_Take.j2 (k + 1) y0 y1 y2 y3 y4 y5 y6 y7))
  | 0 => ⟨fun _ _ _ _ _ r h => by simp [num_Take.l0] at h, fun _ _ _ _ _ _ _ _ r h => by simp [num_Take.j1] at h, fun _ _ _ _ _ _ _ _ r h => by simp [num_Take.j2] at h⟩
  | k + 1 => by
    obtain ⟨ih0, ih1, ih2⟩ := num_Take.mono_l k
    refine ⟨?_, ?_, ?_⟩
    · intro y0 y1 y2 y3 y4
      unfold num_Take.l0
      repeat' first
      | (with_reducible exact ih0 _ _ _ _ _)
      | (with_reducible exact ih1 _ _ _ _ _ _ _ _)
      | (with_reducible exact ih2 _ _ _ _ _ _ _ _)
      | (with_reducible exact LeO.refl _)
      | (with_reducible exact LeO.none _)
      | (with_reducible refine LeO.ite ?_ ?_)
      | (with_reducible refine LeO.bind ?_ (fun _ => ?_))
      | exact ih0 _ _ _ _ _
      | exact ih1 _ _ _ _ _ _ _ _
      | exact ih2 _ _ _ _ _ _ _ _
      | exact LeO.none _
      | refine LeO.ite ?_ ?_
      | refine LeO.bind ?_ (fun _ => ?_)
    · intro y0 y1 y2 y3 y4 y5 y6 y7
      unfold num_Take.j1
      repeat' first
      | (with_reducible exact ih0 _ _ _ _ _)
      | (with_reducible exact ih1 _ _ _ _ _ _ _ _)
      | (with_reducible exact ih2 _ _ _ _ _ _ _ _)
      | (with_reducible exact LeO.refl _)
      | (with_reducible exact LeO.none _)
      | (with_reducible refine LeO.ite ?_ ?_)
      | (with_reducible refine LeO.bind ?_ (fun _ => ?_))
      | exact ih0 _ _ _ _ _
      | exact ih1 _ _ _ _ _ _ _ _
      | exact ih2 _ _ _ _ _ _ _ _
      | exact LeO.none _
      | refine LeO.ite ?_ ?_
      | refine LeO.bind ?_ (fun _ => ?_)
    · intro y0 y1 y2 y3 y4 y5 y6 y7
      unfold num_Take.j2
      repeat' first
      | (with_reducible exact ih0 _ _ _ _ _)
      | (with_reducible exact ih1 _ _ _ _ _ _ _ _)
      | (with_reducible exact ih2 _ _ _ _ _ _ _ _)
      | (with_reducible exact LeO.refl _)
      | (with_reducible exact LeO.none _)
      | (with_reducible refine LeO.ite ?_ ?_)
      | (with_reducible refine LeO.bind ?_ (fun _ => ?_))
      | exact ih0 _ _ _ _ _
      | exact ih1 _ _ _ _ _ _ _ _
      | exact ih2 _ _ _ _ _ _ _ _
      | exact LeO.none _
      | refine LeO.ite ?_ ?_
      | refine LeO.bind ?_ (fun _ => ?_)
theorem num_Take.mono : ∀ a0 k, LeO (num_Take.f k a0) (num_Take.f (k + 1) a0) := by
  intro a0 k
  obtain ⟨ih0, ih1, ih2⟩ := num_Take.mono_l k
  unfold num_Take.f
  repeat' first
      | (with_reducible exact ih0 _ _ _ _ _)
      | (with_reducible exact ih1 _ _ _ _ _ _ _ _)
      | (with_reducible exact ih2 _ _ _ _ _ _ _ _)
      | (with_reducible exact LeO.refl _)
      | (with_reducible exact LeO.none _)
      | (with_reducible refine LeO.ite ?_ ?_)
      | (with_reducible refine LeO.bind ?_ (fun _ => ?_))
      | exact ih0 _ _ _ _ _
      | exact ih1 _ _ _ _ _ _ _ _
      | exact ih2 _ _ _ _ _ _ _ _
      | exact LeO.none _
      | refine LeO.ite ?_ ?_
      | refine LeO.bind ?_ (fun _ => ?_)
set_option maxHeartbeats 8000000 in
set_option maxRecDepth 100000 in
theorem num_Take.calls (k : Nat) (a0 : ByteArray) (r1 : Int) (r2 : ByteArray) (r3 : Int) (w : World) (h : num_Take.f k a0 = some (r1, r2, r3)) :
    Calls Tryz.prog 68 #[.string a0] w fun e w' => e = .returned (.tuple #[.int .u64 r1, .string r2, .int .i64 r3]) ∧ Drawn0 w w' := by
  have H : (num_Take.l0 k a0 0 (-1) (a0.size : Int) 0) = some (r1, r2, r3) := h
  clear h
  have H' := Aside0.mk H
  clear H
  go_enter Tryz.func68, Tryz.ntmps68
  go_wp2; repeat (go_step3; go_wp2)
  repeat (go_quiet (fail); try (go_wp2; repeat (go_step3; go_wp2)))
  (try simp only [Exit.noGoto_ret, Exit.noGoto_normal])
  go_loopg [5, 6, 11] k (fun kq v5 v6 v11 w' => ∃ (x5_1 : Int) (x6_1 : Int) (x11_1 : Int), v5 = .int .u64 x5_1 ∧ v6 = .int .i64 x6_1 ∧ v11 = .int .i64 x11_1 ∧ Aside0 (num_Take.l0 kq a0 x5_1 x6_1 (a0.size : Int) x11_1 = some (r1, r2, r3)) ∧ Aside0 (kq ≤ k) ∧ Drawn0 w w')
  case atStart => exact ⟨(0), ((-1)), (0), zx30_0, zx30_0, zx30_0, H', ⟨Nat.le_refl _⟩, by repeat (first | exact Drawn0.refl _ | apply Drawn0.step)⟩
  case round =>
    clear H'
    obtain ⟨x5_1, x6_1, x11_1, rfl, rfl, rfl, HA, HK1, ⟨m1, rfl⟩⟩ := hrel
    cases gk with
    | zero => exact absurd HA.out (by simp [num_Take.l0])
    | succ k1 =>
      have H := HA.out
      clear HA
      simp only [num_Take.l0] at H
      by_cases c2 : x11_1 < (a0.size : Int)
      · rw [if_pos c2] at H
        have c2b0 : decide (x11_1 < (a0.size : Int)) = true := decide_eq_true c2
        clear c2
        by_cases c3 : 0 ≤ x11_1
        · rw [if_pos c3] at H
          have c3b0 : decide (0 ≤ x11_1) = true := decide_eq_true c3
          clear c3
          by_cases c4 : x11_1 < (a0.size : Int)
          · rw [if_pos c4] at H
            have c4b0 : decide (x11_1 < (a0.size : Int)) = true := decide_eq_true c4
            clear c4
            have HC6 := Aside0.mk H
            clear H
            have p5 : 0 ≤ (x11_1 : Int) := of_decide_eq_true (by first | (with_reducible assumption) | assumption)
            have q5 : x11_1 < (a0.size : Int) := of_decide_eq_true (by first | (with_reducible assumption) | assumption)
            have hx5 := bt_at a0 x11_1
            replace p5 := eq_true p5
            replace q5 := eq_true q5
            go_upto_region 6 with (fail)
            repeat (go_quiet (fail); go_upto_region 6 with (fail))
            go_cut [18] (fun v18 wc => ∃ (kq : Nat) (x18_5 : Bool), v18 = .bool x18_5 ∧ Aside0 (num_Take.j1 kq a0 x5_1 x6_1 x11_1 (IntKind.u64.wrap (bt a0 x11_1)) (a0.size : Int) x11_1 x18_5 = some (r1, r2, r3)) ∧ Aside0 (kq ≤ k1) ∧ Drawn0 w wc)
            case first =>
              have H := HC6.out
              clear HC6
              by_cases c7 : x11_1 = 9
              · rw [if_pos c7] at H
                have c7b0 : (x11_1 == 9) = true := beq_iff_eq.mpr c7
                have c7b1 : (x11_1 != 9) = false := bne_eq_false_iff_eq.mpr c7
                clear c7
                (first | rw [c7b0] | (simp only [i64_w, i32_w]; rw [c7b0]) | skip)
                have H' := Aside0.mk H
                clear H
                go_wp2; repeat (go_step3; go_wp2)
                repeat (go_quiet (fail); try (go_wp2; repeat (go_step3; go_wp2)))
                (try simp only [Exit.noGoto_ret, Exit.noGoto_normal])
                go_meet
                case rel => exact ⟨_, (decide ((IntKind.u64.wrap (bt a0 x11_1)) > 1)), zx30_0, H', ⟨by have := HK1.out; first | omega | exact Nat.le_refl _⟩, by repeat (first | exact Drawn0.refl _ | apply Drawn0.step)⟩
              · rw [if_neg c7] at H
                have c7b0 : (x11_1 == 9) = false := beq_eq_false_iff_ne.mpr c7
                have c7b1 : (x11_1 != 9) = true := bne_iff_ne.mpr c7
                (first | rw [c7b0] | (simp only [i64_w, i32_w]; rw [c7b0]) | skip)
                have H' := Aside0.mk H
                clear H
                go_wp2; repeat (go_step3; go_wp2)
                repeat (go_quiet (fail); try (go_wp2; repeat (go_step3; go_wp2)))
                (try simp only [Exit.noGoto_ret, Exit.noGoto_normal])
                go_meet
                case rel => exact ⟨_, (false), zx30_0, H', ⟨by have := HK1.out; first | omega | exact Nat.le_refl _⟩, by repeat (first | exact Drawn0.refl _ | apply Drawn0.step)⟩
            case rest =>
              clear HC6
              try clear c2
              try clear c2b0
              try clear p2
              try clear c3
              try clear c3b0
              try clear p3
              try clear c4
              try clear c4b0
              try clear p5
              try clear q5
              try clear hx5
              try clear c6
              try clear c7
              try clear c7b0
              try clear c7b1
              try clear p5
              try clear q5
              obtain ⟨kq, x18_5, rfl, HA, HJ5, ⟨mc5, rfl⟩⟩ := hcut
              cases kq with
              | zero => exact absurd HA.out (by simp [num_Take.j1])
              | succ kj5 =>
                have H := HA.out
                clear HA
                simp only [num_Take.j1] at H
                have HC8 := Aside0.mk H
                clear H
                go_upto_if 18 with (fail)
                repeat (go_quiet (fail); go_upto_if 18 with (fail))
                go_cut [18] (fun v18 wc => ∃ (kq : Nat) (x18_7 : Bool), v18 = .bool x18_7 ∧ Aside0 (num_Take.j2 kq a0 x5_1 x6_1 x11_1 (IntKind.u64.wrap (bt a0 x11_1)) (a0.size : Int) x11_1 x18_7 = some (r1, r2, r3)) ∧ Aside0 (kq ≤ kj5) ∧ Drawn0 w wc)
                case first =>
                  have H := HC8.out
                  clear HC8
                  by_cases c9 : x18_5 = true
                  · subst c9
                    have H1 : (num_Take.j2 kj5 a0 x5_1 x6_1 x11_1 (IntKind.u64.wrap (bt a0 x11_1)) (a0.size : Int) x11_1 true) = some (r1, r2, r3) := by rw [if_pos rfl] at H; exact H
                    clear H
                    have H := H1
                    clear H1
                    have H' := Aside0.mk H
                    clear H
                    go_wp2; repeat (go_step3; go_wp2)
                    repeat (go_quiet (fail); try (go_wp2; repeat (go_step3; go_wp2)))
                    (try simp only [Exit.noGoto_ret, Exit.noGoto_normal])
                    go_meet
                    case rel => exact ⟨_, (true), zx30_0, H', ⟨by have := HK1.out; have := HJ5.out; first | omega | exact Nat.le_refl _⟩, by repeat (first | exact Drawn0.refl _ | apply Drawn0.step)⟩
                  · replace c9 := Bool.eq_false_iff.mpr c9
                    subst c9
                    have H1 : (if x11_1 > 0 then (num_Take.j2 kj5 a0 x5_1 x6_1 x11_1 (IntKind.u64.wrap (bt a0 x11_1)) (a0.size : Int) x11_1 ((IntKind.u64.wrap (bt a0 x11_1)) == 0)) else (num_Take.j2 kj5 a0 x5_1 x6_1 x11_1 (IntKind.u64.wrap (bt a0 x11_1)) (a0.size : Int) x11_1 false)) = some (r1, r2, r3) := by rw [if_neg (show ¬ (false = true) by decide)] at H; exact H
                    clear H
                    have H := H1
                    clear H1
                    by_cases c10 : x11_1 > 0
                    · rw [if_pos c10] at H
                      have c10b0 : decide (0 < x11_1) = true := decide_eq_true c10
                      clear c10
                      (first | rw [c10b0] | (simp only [i64_w, i32_w]; rw [c10b0]) | skip)
                      have H' := Aside0.mk H
                      clear H
                      go_wp2; repeat (go_step3; go_wp2)
                      repeat (go_quiet (fail); try (go_wp2; repeat (go_step3; go_wp2)))
                      (try simp only [Exit.noGoto_ret, Exit.noGoto_normal])
                      go_meet
                      case rel => exact ⟨_, (((IntKind.u64.wrap (bt a0 x11_1)) == 0)), zx30_0, H', ⟨by have := HK1.out; have := HJ5.out; first | omega | exact Nat.le_refl _⟩, by repeat (first | exact Drawn0.refl _ | apply Drawn0.step)⟩
                    · rw [if_neg c10] at H
                      have c10b0 : decide (0 < x11_1) = false := decide_eq_false c10
                      clear c10
                      (first | rw [c10b0] | (simp only [i64_w, i32_w]; rw [c10b0]) | skip)
                      have H' := Aside0.mk H
                      clear H
                      go_wp2; repeat (go_step3; go_wp2)
                      repeat (go_quiet (fail); try (go_wp2; repeat (go_step3; go_wp2)))
                      (try simp only [Exit.noGoto_ret, Exit.noGoto_normal])
                      go_meet
                      case rel => exact ⟨_, (false), zx30_0, H', ⟨by have := HK1.out; have := HJ5.out; first | omega | exact Nat.le_refl _⟩, by repeat (first | exact Drawn0.refl _ | apply Drawn0.step)⟩
                case rest =>
                  clear HC8
                  try clear c1
                  try clear c2
                  try clear c2b0
                  try clear p2
                  try clear c3
                  try clear c3b0
                  try clear p3
                  try clear c4
                  try clear c4b0
                  try clear c5
                  try clear p5
                  try clear q5
                  try clear hx5
                  try clear c6
                  try clear c7
                  try clear c7b0
                  try clear c7b1
                  try clear c9
                  try clear c10
                  try clear c10b0
                  try clear p2
                  try clear p3
                  try clear p5
                  try clear q5
                  obtain ⟨kq, x18_7, rfl, HA, HJ7, ⟨mc7, rfl⟩⟩ := hcut
                  cases kq with
                  | zero => exact absurd HA.out (by simp [num_Take.j2])
                  | succ kj7 =>
                    have H := HA.out
                    clear HA
                    simp only [num_Take.j2] at H
                    by_cases c11 : x18_7 = true
                    · subst c11
                      have H1 : (if x6_1 < 0 then (some (0, (⟨#[]⟩ : ByteArray), 2)) else (if 0 ≤ x6_1 then (if x6_1 ≤ (a0.size : Int) then (some (x5_1, a0.extract (x6_1 : Int).toNat a0.size, 0)) else (none)) else (none))) = some (r1, r2, r3) := by rw [if_pos rfl] at H; exact H
                      clear H
                      have H := H1
                      clear H1
                      by_cases c12 : x6_1 < 0
                      · rw [if_pos c12] at H
                        have c12b0 : decide (x6_1 < 0) = true := decide_eq_true c12
                        clear c12
                        simp only [Option.some.injEq, Prod.mk.injEq] at H
                        obtain ⟨rfl, rfl, rfl⟩ := H
                        go_wp2; repeat (go_step3; go_wp2)
                        repeat (go_quiet (fail); try (go_wp2; repeat (go_step3; go_wp2)))
                        (try simp only [Exit.noGoto_ret, Exit.noGoto_normal])
                        go_ret3
                        exact ⟨by first | rfl | (simp; done) | (simp [*]; done), by repeat (first | exact Drawn0.refl _ | apply Drawn0.step)⟩
                      · rw [if_neg c12] at H
                        have c12b0 : decide (x6_1 < 0) = false := decide_eq_false c12
                        clear c12
                        by_cases c13 : 0 ≤ x6_1
                        · rw [if_pos c13] at H
                          have c13b0 := eq_true c13
                          have c13b1 : decide (0 ≤ x6_1) = true := decide_eq_true c13
                          clear c13
                          by_cases c14 : x6_1 ≤ (a0.size : Int)
                          · rw [if_pos c14] at H
                            have c14b0 := eq_true c14
                            have c14b1 : decide (x6_1 ≤ (a0.size : Int)) = true := decide_eq_true c14
                            clear c14
                            simp only [Option.some.injEq, Prod.mk.injEq] at H
                            obtain ⟨rfl, rfl, rfl⟩ := H
                            go_wp2; repeat (go_step3; go_wp2)
                            repeat (go_quiet (fail); try (go_wp2; repeat (go_step3; go_wp2)))
                            (try simp only [Exit.noGoto_ret, Exit.noGoto_normal])
                            go_ret3
                            exact ⟨by first | rfl | (simp; done) | (simp [*]; done), by repeat (first | exact Drawn0.refl _ | apply Drawn0.step)⟩
                          · rw [if_neg c14] at H
                            exact absurd H (by simp)
                        · rw [if_neg c13] at H
                          exact absurd H (by simp)
                    · replace c11 := Bool.eq_false_iff.mpr c11
                      subst c11
                      have H1 : (if (IntKind.u64.wrap (bt a0 x11_1)) < 128 then (if 0 ≤ (wrap64 (7 * x11_1)) then (if (wrap64 (x11_1 + 1)) < 0 then (some (0, (⟨#[]⟩ : ByteArray), 2)) else (if 0 ≤ (wrap64 (x11_1 + 1)) then (if (wrap64 (x11_1 + 1)) ≤ (a0.size : Int) then (some (Go.bits .or .u64 x5_1 (shl .u64 (IntKind.u64.wrap (bt a0 x11_1)) (wrap64 (7 * x11_1))), a0.extract ((wrap64 (x11_1 + 1)) : Int).toNat a0.size, 0)) else (none)) else (none))) else (none)) else (if 0 ≤ (wrap64 (7 * x11_1)) then (num_Take.l0 kj7 a0 (Go.bits .or .u64 x5_1 (shl .u64 (Go.bits .and .u64 (IntKind.u64.wrap (bt a0 x11_1)) 127) (wrap64 (7 * x11_1)))) x6_1 (a0.size : Int) (wrap64 (x11_1 + 1))) else (none))) = some (r1, r2, r3) := by rw [if_neg (show ¬ (false = true) by decide)] at H; exact H
                      clear H
                      have H := H1
                      clear H1
                      by_cases c15 : (IntKind.u64.wrap (bt a0 x11_1)) < 128
                      · rw [if_pos c15] at H
                        have c15b0 : decide ((IntKind.u64.wrap (bt a0 x11_1)) < 128) = true := decide_eq_true c15
                        clear c15
                        obtain ⟨ji16, hji16⟩ : ∃ j_ : Int, (wrap64 (7 * x11_1)) = j_ := ⟨_, rfl⟩
                        replace H : (if 0 ≤ (ji16) then (if (wrap64 (x11_1 + 1)) < 0 then (some (0, (⟨#[]⟩ : ByteArray), 2)) else (if 0 ≤ (wrap64 (x11_1 + 1)) then (if (wrap64 (x11_1 + 1)) ≤ (a0.size : Int) then (some (Go.bits .or .u64 x5_1 (shl .u64 (IntKind.u64.wrap (bt a0 x11_1)) (ji16)), a0.extract ((wrap64 (x11_1 + 1)) : Int).toNat a0.size, 0)) else (none)) else (none))) else (none)) = some (r1, r2, r3) := by first | (rw [hji16] at H; exact H) | (simp only [hji16] at H ⊢; exact H)
                        have hji16w : (IntKind.i64.wrap (7 * x11_1)) = ji16 := (i64_w _).trans hji16
                        by_cases c17 : 0 ≤ (ji16)
                        · rw [if_pos c17] at H
                          have c17b0 := eq_true c17
                          have c17b1 : decide (0 ≤ (ji16)) = true := decide_eq_true c17
                          clear c17
                          obtain ⟨ji18, hji18⟩ : ∃ j_ : Int, (shl .u64 (IntKind.u64.wrap (bt a0 x11_1)) (ji16)) = j_ := ⟨_, rfl⟩
                          replace H : (if (wrap64 (x11_1 + 1)) < 0 then (some (0, (⟨#[]⟩ : ByteArray), 2)) else (if 0 ≤ (wrap64 (x11_1 + 1)) then (if (wrap64 (x11_1 + 1)) ≤ (a0.size : Int) then (some (Go.bits .or .u64 x5_1 (ji18), a0.extract ((wrap64 (x11_1 + 1)) : Int).toNat a0.size, 0)) else (none)) else (none))) = some (r1, r2, r3) := by first | (rw [hji18] at H; exact H) | (simp only [hji18] at H ⊢; exact H)
                          have hji18_ : (IntKind.u64.wrap ((IntKind.u64.wrap (bt a0 x11_1)) * 2 ^ min (ji16).toNat 64)) = ji18 := hji18
                          have hji18z : (ji16) ≤ 64 → (IntKind.u64.wrap ((IntKind.u64.wrap (bt a0 x11_1)) * 2 ^ (ji16).toNat)) = ji18 := shl_small hji18
                          by_cases c19 : (wrap64 (x11_1 + 1)) < 0
                          · rw [if_pos c19] at H
                            have c19b0 : decide ((wrap64 (x11_1 + 1)) < 0) = true := decide_eq_true c19
                            clear c19
                            simp only [Option.some.injEq, Prod.mk.injEq] at H
                            obtain ⟨rfl, rfl, rfl⟩ := H
                            go_wp2; repeat (go_step3; go_wp2)
                            repeat (go_quiet (fail); try (go_wp2; repeat (go_step3; go_wp2)))
                            (try simp only [Exit.noGoto_ret, Exit.noGoto_normal])
                            go_ret3
                            exact ⟨by first | rfl | (simp; done) | (simp only [← hji16, ← hji18] <;> (first | rfl | simp)) | (simp [*]; done), by repeat (first | exact Drawn0.refl _ | apply Drawn0.step)⟩
                          · rw [if_neg c19] at H
                            have c19b0 : decide ((wrap64 (x11_1 + 1)) < 0) = false := decide_eq_false c19
                            clear c19
                            obtain ⟨ji20, hji20⟩ : ∃ j_ : Int, (wrap64 (x11_1 + 1)) = j_ := ⟨_, rfl⟩
                            replace H : (if 0 ≤ (ji20) then (if (ji20) ≤ (a0.size : Int) then (some (Go.bits .or .u64 x5_1 (ji18), a0.extract ((ji20) : Int).toNat a0.size, 0)) else (none)) else (none)) = some (r1, r2, r3) := by first | (rw [hji20] at H; exact H) | (simp only [hji20] at H ⊢; exact H)
                            (try rw [hji20] at c19b0)
                            have hji20w : (IntKind.i64.wrap (x11_1 + 1)) = ji20 := (i64_w _).trans hji20
                            by_cases c21 : 0 ≤ (ji20)
                            · rw [if_pos c21] at H
                              have c21b0 := eq_true c21
                              have c21b1 : decide (0 ≤ (ji20)) = true := decide_eq_true c21
                              clear c21
                              by_cases c22 : (ji20) ≤ (a0.size : Int)
                              · rw [if_pos c22] at H
                                have c22b0 := eq_true c22
                                have c22b1 : decide ((ji20) ≤ (a0.size : Int)) = true := decide_eq_true c22
                                clear c22
                                simp only [Option.some.injEq, Prod.mk.injEq] at H
                                obtain ⟨rfl, rfl, rfl⟩ := H
                                go_wp2; repeat (go_step3; go_wp2)
                                repeat (go_quiet (fail); try (go_wp2; repeat (go_step3; go_wp2)))
                                (try simp only [Exit.noGoto_ret, Exit.noGoto_normal])
                                go_ret3
                                exact ⟨by first | rfl | (simp; done) | (simp only [← hji16, ← hji18, ← hji20] <;> (first | rfl | simp)) | (simp [*]; done), by repeat (first | exact Drawn0.refl _ | apply Drawn0.step)⟩
                              · rw [if_neg c22] at H
                                exact absurd H (by simp)
                            · rw [if_neg c21] at H
                              exact absurd H (by simp)
                        · rw [if_neg c17] at H
                          exact absurd H (by simp)
                      · rw [if_neg c15] at H
                        have c15b0 : decide ((IntKind.u64.wrap (bt a0 x11_1)) < 128) = false := decide_eq_false c15
                        clear c15
                        obtain ⟨ji23, hji23⟩ : ∃ j_ : Int, (wrap64 (7 * x11_1)) = j_ := ⟨_, rfl⟩
                        replace H : (if 0 ≤ (ji23) then (num_Take.l0 kj7 a0 (Go.bits .or .u64 x5_1 (shl .u64 (Go.bits .and .u64 (IntKind.u64.wrap (bt a0 x11_1)) 127) (ji23))) x6_1 (a0.size : Int) (wrap64 (x11_1 + 1))) else (none)) = some (r1, r2, r3) := by first | (rw [hji23] at H; exact H) | (simp only [hji23] at H ⊢; exact H)
                        have hji23w : (IntKind.i64.wrap (7 * x11_1)) = ji23 := (i64_w _).trans hji23
                        by_cases c24 : 0 ≤ (ji23)
                        · rw [if_pos c24] at H
                          have c24b0 := eq_true c24
                          have c24b1 : decide (0 ≤ (ji23)) = true := decide_eq_true c24
                          clear c24
                          obtain ⟨ji25, hji25⟩ : ∃ j_ : Int, (shl .u64 (Go.bits .and .u64 (IntKind.u64.wrap (bt a0 x11_1)) 127) (ji23)) = j_ := ⟨_, rfl⟩
                          replace H : (num_Take.l0 kj7 a0 (Go.bits .or .u64 x5_1 (ji25)) x6_1 (a0.size : Int) (wrap64 (x11_1 + 1))) = some (r1, r2, r3) := by first | (rw [hji25] at H; exact H) | (simp only [hji25] at H ⊢; exact H)
                          have hji25_ : (IntKind.u64.wrap ((Go.bits .and .u64 (IntKind.u64.wrap (bt a0 x11_1)) 127) * 2 ^ min (ji23).toNat 64)) = ji25 := hji25
                          have hji25z : (ji23) ≤ 64 → (IntKind.u64.wrap ((Go.bits .and .u64 (IntKind.u64.wrap (bt a0 x11_1)) 127) * 2 ^ (ji23).toNat)) = ji25 := shl_small hji25
                          have H' := Aside0.mk H
                          clear H
                          go_wp2; repeat (go_step3; go_wp2)
                          repeat (go_quiet (fail); try (go_wp2; repeat (go_step3; go_wp2)))
                          (try simp only [Exit.noGoto_ret, Exit.noGoto_normal])
                          go_roundg kj7
                          case measure => have := HK1.out; have := HJ5.out; have := HJ7.out; omega
                          case rel => exact ⟨(Go.bits .or .u64 x5_1 (ji25)), (x6_1), (wrap64 (x11_1 + 1)), (by first | rfl | (simp; done) | (simp only [← hji25] <;> (first | rfl | simp)) | (simp [*]; done)), zx30_0, zx30_0, H', ⟨by have := HK1.out; have := HJ5.out; have := HJ7.out; omega⟩, by repeat (first | exact Drawn0.refl _ | apply Drawn0.step)⟩
                        · rw [if_neg c24] at H
                          exact absurd H (by simp)
          · rw [if_neg c4] at H
            exact absurd H (by simp)
        · rw [if_neg c3] at H
          exact absurd H (by simp)
      · rw [if_neg c2] at H
        have c2b0 : decide (x11_1 < (a0.size : Int)) = false := decide_eq_false c2
        clear c2
        by_cases c26 : x6_1 < 0
        · rw [if_pos c26] at H
          have c26b0 : decide (x6_1 < 0) = true := decide_eq_true c26
          clear c26
          simp only [Option.some.injEq, Prod.mk.injEq] at H
          obtain ⟨rfl, rfl, rfl⟩ := H
          go_wp2; repeat (go_step3; go_wp2)
          repeat (go_quiet (fail); try (go_wp2; repeat (go_step3; go_wp2)))
          (try simp only [Exit.noGoto_ret, Exit.noGoto_normal])
          go_ret3
          exact ⟨by first | rfl | (simp; done) | (simp [*]; done), by repeat (first | exact Drawn0.refl _ | apply Drawn0.step)⟩
        · rw [if_neg c26] at H
          have c26b0 : decide (x6_1 < 0) = false := decide_eq_false c26
          clear c26
          by_cases c27 : 0 ≤ x6_1
          · rw [if_pos c27] at H
            have c27b0 := eq_true c27
            have c27b1 : decide (0 ≤ x6_1) = true := decide_eq_true c27
            clear c27
            by_cases c28 : x6_1 ≤ (a0.size : Int)
            · rw [if_pos c28] at H
              have c28b0 := eq_true c28
              have c28b1 : decide (x6_1 ≤ (a0.size : Int)) = true := decide_eq_true c28
              clear c28
              simp only [Option.some.injEq, Prod.mk.injEq] at H
              obtain ⟨rfl, rfl, rfl⟩ := H
              go_wp2; repeat (go_step3; go_wp2)
              repeat (go_quiet (fail); try (go_wp2; repeat (go_step3; go_wp2)))
              (try simp only [Exit.noGoto_ret, Exit.noGoto_normal])
              go_ret3
              exact ⟨by first | rfl | (simp; done) | (simp [*]; done), by repeat (first | exact Drawn0.refl _ | apply Drawn0.step)⟩
            · rw [if_neg c28] at H
              exact absurd H (by simp)
          · rw [if_neg c27] at H
            exact absurd H (by simp)

end Go.Proofs.YthaegbiblblccaaGreatDoor.XEnt
end
section
/- What the functions of the translation answer, each as a plain Lean function, and that the code comes to it; for a law: its row. Conditions: none but those that each theorem names. Written by a program of this session (wip/xp). -/
namespace Go.Proofs.YthaegbiblblccaaGreatDoor.XEnt
open Go.RowKit Go.Proofs.YthaegbiblblccaaGreatDoorW.PrintWords Go.Proofs.YthaegbiblblccaaGreatDoorW.PrintLast Go.Proofs.YthaegbiblblccaaGreatDoorW.PrintMore
attribute [local go_sem] max2_int min2_int max_two min_two max_three min_three max_four min_four   -- for this text's walks alone

set_option linter.unusedVariables false
set_option linter.unusedSimpArgs false

/-! ### num_TakeInt: function 70 -/
def num_TakeInt.f (k : Nat) (a0 : ByteArray) : Option (Int × ByteArray × Int) := (num_Take.f k a0).bind fun bt476 => (some (Go.bits .xor .i64 (wrap64 (bt476.1 / 2)) (wrap64 (-(wrap64 (Go.bits .and .u64 bt476.1 1)))), bt476.2.1, bt476.2.2))
theorem num_TakeInt.mono : ∀ a0 k, LeO (num_TakeInt.f k a0) (num_TakeInt.f (k + 1) a0) := by
  intro a0 k
  unfold num_TakeInt.f
  repeat' first
      | (with_reducible exact num_Take.mono _ _)
      | (with_reducible exact LeO.refl _)
      | (with_reducible exact LeO.none _)
      | (with_reducible refine LeO.ite ?_ ?_)
      | (with_reducible refine LeO.bind ?_ (fun _ => ?_))
      | exact num_Take.mono _ _
      | exact LeO.none _
      | refine LeO.ite ?_ ?_
      | refine LeO.bind ?_ (fun _ => ?_)
set_option maxHeartbeats 8000000 in
set_option maxRecDepth 100000 in
theorem num_TakeInt.calls (k : Nat) (a0 : ByteArray) (r1 : Int) (r2 : ByteArray) (r3 : Int) (w : World) (h : num_TakeInt.f k a0 = some (r1, r2, r3)) :
    Calls Tryz.prog 70 #[.string a0] w fun e w' => e = .returned (.tuple #[.int .i64 r1, .string r2, .int .i64 r3]) ∧ Drawn0 w w' := by
  have H : ((num_Take.f k a0).bind fun bt476 => (some (Go.bits .xor .i64 (wrap64 (bt476.1 / 2)) (wrap64 (-(wrap64 (Go.bits .and .u64 bt476.1 1)))), bt476.2.1, bt476.2.2))) = some (r1, r2, r3) := h
  clear h
  replace H := Option.bind_eq_some_iff.mp H
  obtain ⟨⟨t476, t477, t478⟩, A20, H⟩ := H
  replace H : (some (Go.bits .xor .i64 (wrap64 (t476 / 2)) (wrap64 (-(wrap64 (Go.bits .and .u64 t476 1)))), t477, t478)) = some (r1, r2, r3) := H
  have A2 := Aside0.mk A20
  clear A20
  simp only [Option.some.injEq, Prod.mk.injEq] at H
  obtain ⟨rfl, rfl, rfl⟩ := H
  go_enter Tryz.func70, Tryz.ntmps70
  go_wp2_with (first | ((with_reducible refine gate_callee (f := 68) rfl ?_); refine goesL_ (some 10) rfl rfl Tryz.func68 (by kernel_rfl) rfl #[.string a0] rfl (by (try simp only [List.map_toArray, List.map_cons, List.map_nil]); first | done | rfl | (simp only [List.length_drop, List.length_take]; rfl)) ?_; (with_reducible refine (num_Take.calls k a0 t476 t477 t478 _ A2.out).mono ?_); rintro e w' ⟨rfl, ⟨nd, rfl⟩⟩; refine ⟨_, rfl, ?_⟩))
  go_ret3
  exact ⟨by first | rfl | (simp; done) | (simp [*]; done), by repeat (first | exact Drawn0.refl _ | apply Drawn0.step)⟩

-- NOT PRINTED: function 71 (sample_sums)

end Go.Proofs.YthaegbiblblccaaGreatDoor.XEnt
end
section
/- What the functions of the translation answer, each as a plain Lean function, and that the code comes to it; for a law: its row. Conditions: none but those that each theorem names. Written by a program of this session (wip/xp). -/
namespace Go.Proofs.YthaegbiblblccaaGreatDoor.XEnt
open Go.RowKit Go.Proofs.YthaegbiblblccaaGreatDoorW.PrintWords Go.Proofs.YthaegbiblblccaaGreatDoorW.PrintLast Go.Proofs.YthaegbiblblccaaGreatDoorW.PrintMore
attribute [local go_sem] max2_int min2_int max_two min_two max_three min_three max_four min_four   -- for this text's walks alone
theorem zx11_0 {p : Prop} (h : p := by first | (with_reducible assumption) | assumption) : p := h
set_option linter.unusedVariables false
set_option linter.unusedSimpArgs false

/-! ### postroomref3_Name: function 59 -/
def postroomref3_Name.l0 : Nat → ByteArray → Int → Option (Bool)
  | 0, _, _ => none
  | k + 1, x0, x3 => if x3 < (x0.size : Int) then (if 0 ≤ x3 then (if (bt x0 x3) ≥ 97 then (if (bt x0 x3) ≤ 122 then (postroomref3_Name.l0 k x0 (wrap64 (x3 + 1))) else (if ((bt x0 x3) = 95) then (postroomref3_Name.l0 k x0 (wrap64 (x3 + 1))) else (if x3 = 0 then (some false) else (if (bt x0 x3) < 48 then (some false) else (if (bt x0 x3) > 57 then (some false) else (postroomref3_Name.l0 k x0 (wrap64 (x3 + 1)))))))) else (if ((bt x0 x3) = 95) then (postroomref3_Name.l0 k x0 (wrap64 (x3 + 1))) else (if x3 = 0 then (some false) else (if (bt x0 x3) < 48 then (some false) else (if (bt x0 x3) > 57 then (some false) else (postroomref3_Name.l0 k x0 (wrap64 (x3 + 1)))))))) else (none)) else (if (x0.size : Int) ≥ 1 then (some (decide ((x0.size : Int) ≤ 20))) else (some false))
def postroomref3_Name.f (k : Nat) (a0 : ByteArray) : Option (Bool) := postroomref3_Name.l0 k a0 0
theorem postroomref3_Name.mono_l : ∀ k, (∀ y0 y1, LeO (postroomref3_Name.l0 k y0 y1) (postroomref3_Name.l0 (k + 1) y0 y1))
  | 0 => fun _ _ r h => by simp [postroomref3_Name.l0] at h
  | k + 1 => by
    have ih0 := postroomref3_Name.mono_l k
    · intro y0 y1
      unfold postroomref3_Name.l0
      repeat' first
      | (with_reducible exact ih0 _ _)
      | (with_reducible exact LeO.refl _)
      | (with_reducible exact LeO.none _)
      | (with_reducible refine LeO.ite ?_ ?_)
      | (with_reducible refine LeO.bind ?_ (fun _ => ?_))
      | exact ih0 _ _
      | exact LeO.none _
      | refine LeO.ite ?_ ?_
      | refine LeO.bind ?_ (fun _ => ?_)
theorem postroomref3_Name.mono : ∀ a0 k, LeO (postroomref3_Name.f k a0) (postroomref3_Name.f (k + 1) a0) := by
  intro a0 k
  have ih0 := postroomref3_Name.mono_l k
  unfold postroomref3_Name.f
  repeat' first
      | (with_reducible exact ih0 _ _)
      | (with_reducible exact LeO.refl _)
      | (with_reducible exact LeO.none _)
      | (with_reducible refine LeO.ite ?_ ?_)
      | (with_reducible refine LeO.bind ?_ (fun _ => ?_))
      | exact ih0 _ _
      | exact LeO.none _
      | refine LeO.ite ?_ ?_
      | refine LeO.bind ?_ (fun _ => ?_)
set_option maxHeartbeats 8000000 in
set_option maxRecDepth 100000 in
theorem postroomref3_Name.calls (k : Nat) (a0 : ByteArray) (r : Bool) (w : World) (h : postroomref3_Name.f k a0 = some r) :
    Calls Tryz.prog 59 #[.string a0] w fun e w' => e = .returned (.bool r) ∧ Drawn0 w w' := by
  have H : (postroomref3_Name.l0 k a0 0) = some r := h
  clear h
  have H' := Aside0.mk H
  clear H
  go_enter Tryz.func59, Tryz.ntmps59
  go_wp2
  go_loopg [3] k (fun kq v3 w' => ∃ (x3_1 : Int), v3 = .int .i64 x3_1 ∧ Aside0 (postroomref3_Name.l0 kq a0 x3_1 = some r) ∧ Aside0 (kq ≤ k) ∧ Drawn0 w w')
  case atStart => exact ⟨(0), (by first | rfl | (simp; done) | (simp [*]; done)), H', ⟨Nat.le_refl _⟩, by repeat (first | exact Drawn0.refl _ | apply Drawn0.step)⟩
  case round =>
    clear H'
    obtain ⟨x3_1, rfl, HA, HK1, ⟨m1, rfl⟩⟩ := hrel
    cases gk with
    | zero => exact absurd HA.out (by simp [postroomref3_Name.l0])
    | succ k1 =>
      have H := HA.out
      clear HA
      simp only [postroomref3_Name.l0] at H
      by_cases c2 : x3_1 < (a0.size : Int)
      · rw [if_pos c2] at H
        have c2b0 : decide (x3_1 < (a0.size : Int)) = true := decide_eq_true c2
        clear c2
        by_cases c3 : 0 ≤ x3_1
        · rw [if_pos c3] at H
          have c3b0 : decide (0 ≤ x3_1) = true := decide_eq_true c3
          clear c3
          by_cases c5 : (bt a0 x3_1) ≥ 97
          · rw [if_pos c5] at H
            have c5b0 : decide (97 ≤ (bt a0 x3_1)) = true := decide_eq_true c5
            clear c5
            by_cases c7 : (bt a0 x3_1) ≤ 122
            · rw [if_pos c7] at H
              have c7b0 : decide ((bt a0 x3_1) ≤ 122) = true := decide_eq_true c7
              clear c7
              have H' := Aside0.mk H
              clear H
              have p4 : 0 ≤ (x3_1 : Int) := of_decide_eq_true zx11_0
              have q4 : x3_1 < (a0.size : Int) := of_decide_eq_true zx11_0
              have hx4 := bt_at a0 x3_1
              replace p4 := eq_true p4
              replace q4 := eq_true q4
              have p6 : 0 ≤ (x3_1 : Int) := of_decide_eq_true zx11_0
              have q6 : x3_1 < (a0.size : Int) := of_decide_eq_true zx11_0
              have hx6 := bt_at a0 x3_1
              replace p6 := eq_true p6
              replace q6 := eq_true q6
              go_wp2
              go_roundg k1
              case measure => have := HK1.out; omega
              case rel => exact ⟨(wrap64 (x3_1 + 1)), (by first | rfl | (simp; done) | (simp [*]; done)), H', ⟨by have := HK1.out; omega⟩, by repeat (first | exact Drawn0.refl _ | apply Drawn0.step)⟩
            · rw [if_neg c7] at H
              have c7b0 : decide ((bt a0 x3_1) ≤ 122) = false := decide_eq_false c7
              clear c7
              by_cases c9 : ((bt a0 x3_1) = 95)
              · rw [if_pos c9] at H
                have c9b0 : ((bt a0 x3_1) == 95) = true := beq_iff_eq.mpr c9
                have c9b1 : ((bt a0 x3_1) != 95) = false := bne_eq_false_iff_eq.mpr c9
                clear c9
                have H' := Aside0.mk H
                clear H
                have p4 : 0 ≤ (x3_1 : Int) := of_decide_eq_true zx11_0
                have q4 : x3_1 < (a0.size : Int) := of_decide_eq_true zx11_0
                have hx4 := bt_at a0 x3_1
                replace p4 := eq_true p4
                replace q4 := eq_true q4
                have p6 : 0 ≤ (x3_1 : Int) := of_decide_eq_true zx11_0
                have q6 : x3_1 < (a0.size : Int) := of_decide_eq_true zx11_0
                have hx6 := bt_at a0 x3_1
                replace p6 := eq_true p6
                replace q6 := eq_true q6
                have p8 : 0 ≤ (x3_1 : Int) := of_decide_eq_true zx11_0
                have q8 : x3_1 < (a0.size : Int) := of_decide_eq_true zx11_0
                have hx8 := bt_at a0 x3_1
                replace p8 := eq_true p8
                replace q8 := eq_true q8
                go_wp2
                go_roundg k1
                case measure => have := HK1.out; omega
                case rel => exact ⟨(wrap64 (x3_1 + 1)), (by first | rfl | (simp; done) | (simp [*]; done)), H', ⟨by have := HK1.out; omega⟩, by repeat (first | exact Drawn0.refl _ | apply Drawn0.step)⟩
              · rw [if_neg c9] at H
                have c9b0 : ((bt a0 x3_1) == 95) = false := beq_eq_false_iff_ne.mpr c9
                have c9b1 : ((bt a0 x3_1) != 95) = true := bne_iff_ne.mpr c9
                by_cases c10 : x3_1 = 0
                · rw [if_pos c10] at H
                  have c10b0 : (x3_1 == 0) = true := beq_iff_eq.mpr c10
                  have c10b1 : (x3_1 != 0) = false := bne_eq_false_iff_eq.mpr c10
                  clear c10
                  obtain rfl := Option.some.inj H
                  have p4 : 0 ≤ (x3_1 : Int) := of_decide_eq_true zx11_0
                  have q4 : x3_1 < (a0.size : Int) := of_decide_eq_true zx11_0
                  have hx4 := bt_at a0 x3_1
                  replace p4 := eq_true p4
                  replace q4 := eq_true q4
                  have p6 : 0 ≤ (x3_1 : Int) := of_decide_eq_true zx11_0
                  have q6 : x3_1 < (a0.size : Int) := of_decide_eq_true zx11_0
                  have hx6 := bt_at a0 x3_1
                  replace p6 := eq_true p6
                  replace q6 := eq_true q6
                  have p8 : 0 ≤ (x3_1 : Int) := of_decide_eq_true zx11_0
                  have q8 : x3_1 < (a0.size : Int) := of_decide_eq_true zx11_0
                  have hx8 := bt_at a0 x3_1
                  replace p8 := eq_true p8
                  replace q8 := eq_true q8
                  go_wp2
                  go_ret
                  exact ⟨by first | rfl | (simp; done) | (simp [*]; done), by repeat (first | exact Drawn0.refl _ | apply Drawn0.step)⟩
                · rw [if_neg c10] at H
                  have c10b0 : (x3_1 == 0) = false := beq_eq_false_iff_ne.mpr c10
                  have c10b1 : (x3_1 != 0) = true := bne_iff_ne.mpr c10
                  by_cases c12 : (bt a0 x3_1) < 48
                  · rw [if_pos c12] at H
                    have c12b0 : decide ((bt a0 x3_1) < 48) = true := decide_eq_true c12
                    clear c12
                    obtain rfl := Option.some.inj H
                    have p4 : 0 ≤ (x3_1 : Int) := of_decide_eq_true zx11_0
                    have q4 : x3_1 < (a0.size : Int) := of_decide_eq_true zx11_0
                    have hx4 := bt_at a0 x3_1
                    replace p4 := eq_true p4
                    replace q4 := eq_true q4
                    have p6 : 0 ≤ (x3_1 : Int) := of_decide_eq_true zx11_0
                    have q6 : x3_1 < (a0.size : Int) := of_decide_eq_true zx11_0
                    have hx6 := bt_at a0 x3_1
                    replace p6 := eq_true p6
                    replace q6 := eq_true q6
                    have p8 : 0 ≤ (x3_1 : Int) := of_decide_eq_true zx11_0
                    have q8 : x3_1 < (a0.size : Int) := of_decide_eq_true zx11_0
                    have hx8 := bt_at a0 x3_1
                    replace p8 := eq_true p8
                    replace q8 := eq_true q8
                    have p11 : 0 ≤ (x3_1 : Int) := of_decide_eq_true zx11_0
                    have q11 : x3_1 < (a0.size : Int) := of_decide_eq_true zx11_0
                    have hx11 := bt_at a0 x3_1
                    replace p11 := eq_true p11
                    replace q11 := eq_true q11
                    go_wp2
                    go_ret
                    exact ⟨by first | rfl | (simp; done) | (simp [*]; done), by repeat (first | exact Drawn0.refl _ | apply Drawn0.step)⟩
                  · rw [if_neg c12] at H
                    have c12b0 : decide ((bt a0 x3_1) < 48) = false := decide_eq_false c12
                    clear c12
                    by_cases c14 : (bt a0 x3_1) > 57
                    · rw [if_pos c14] at H
                      have c14b0 : decide (57 < (bt a0 x3_1)) = true := decide_eq_true c14
                      clear c14
                      obtain rfl := Option.some.inj H
                      have p4 : 0 ≤ (x3_1 : Int) := of_decide_eq_true zx11_0
                      have q4 : x3_1 < (a0.size : Int) := of_decide_eq_true zx11_0
                      have hx4 := bt_at a0 x3_1
                      replace p4 := eq_true p4
                      replace q4 := eq_true q4
                      have p6 : 0 ≤ (x3_1 : Int) := of_decide_eq_true zx11_0
                      have q6 : x3_1 < (a0.size : Int) := of_decide_eq_true zx11_0
                      have hx6 := bt_at a0 x3_1
                      replace p6 := eq_true p6
                      replace q6 := eq_true q6
                      have p8 : 0 ≤ (x3_1 : Int) := of_decide_eq_true zx11_0
                      have q8 : x3_1 < (a0.size : Int) := of_decide_eq_true zx11_0
                      have hx8 := bt_at a0 x3_1
                      replace p8 := eq_true p8
                      replace q8 := eq_true q8
                      have p11 : 0 ≤ (x3_1 : Int) := of_decide_eq_true zx11_0
                      have q11 : x3_1 < (a0.size : Int) := of_decide_eq_true zx11_0
                      have hx11 := bt_at a0 x3_1
                      replace p11 := eq_true p11
                      replace q11 := eq_true q11
                      have p13 : 0 ≤ (x3_1 : Int) := of_decide_eq_true zx11_0
                      have q13 : x3_1 < (a0.size : Int) := of_decide_eq_true zx11_0
                      have hx13 := bt_at a0 x3_1
                      replace p13 := eq_true p13
                      replace q13 := eq_true q13
                      go_wp2
                      go_ret
                      exact ⟨by first | rfl | (simp; done) | (simp [*]; done), by repeat (first | exact Drawn0.refl _ | apply Drawn0.step)⟩
                    · rw [if_neg c14] at H
                      have c14b0 : decide (57 < (bt a0 x3_1)) = false := decide_eq_false c14
                      clear c14
                      have H' := Aside0.mk H
                      clear H
                      have p4 : 0 ≤ (x3_1 : Int) := of_decide_eq_true zx11_0
                      have q4 : x3_1 < (a0.size : Int) := of_decide_eq_true zx11_0
                      have hx4 := bt_at a0 x3_1
                      replace p4 := eq_true p4
                      replace q4 := eq_true q4
                      have p6 : 0 ≤ (x3_1 : Int) := of_decide_eq_true zx11_0
                      have q6 : x3_1 < (a0.size : Int) := of_decide_eq_true zx11_0
                      have hx6 := bt_at a0 x3_1
                      replace p6 := eq_true p6
                      replace q6 := eq_true q6
                      have p8 : 0 ≤ (x3_1 : Int) := of_decide_eq_true zx11_0
                      have q8 : x3_1 < (a0.size : Int) := of_decide_eq_true zx11_0
                      have hx8 := bt_at a0 x3_1
                      replace p8 := eq_true p8
                      replace q8 := eq_true q8
                      have p11 : 0 ≤ (x3_1 : Int) := of_decide_eq_true zx11_0
                      have q11 : x3_1 < (a0.size : Int) := of_decide_eq_true zx11_0
                      have hx11 := bt_at a0 x3_1
                      replace p11 := eq_true p11
                      replace q11 := eq_true q11
                      have p13 : 0 ≤ (x3_1 : Int) := of_decide_eq_true zx11_0
                      have q13 : x3_1 < (a0.size : Int) := of_decide_eq_true zx11_0
                      have hx13 := bt_at a0 x3_1
                      replace p13 := eq_true p13
                      replace q13 := eq_true q13
                      go_wp2
                      go_roundg k1
                      case measure => have := HK1.out; omega
                      case rel => exact ⟨(wrap64 (x3_1 + 1)), (by first | rfl | (simp; done) | (simp [*]; done)), H', ⟨by have := HK1.out; omega⟩, by repeat (first | exact Drawn0.refl _ | apply Drawn0.step)⟩
          · rw [if_neg c5] at H
            have c5b0 : decide (97 ≤ (bt a0 x3_1)) = false := decide_eq_false c5
            clear c5
            by_cases c16 : ((bt a0 x3_1) = 95)
            · rw [if_pos c16] at H
              have c16b0 : ((bt a0 x3_1) == 95) = true := beq_iff_eq.mpr c16
              have c16b1 : ((bt a0 x3_1) != 95) = false := bne_eq_false_iff_eq.mpr c16
              clear c16
              have H' := Aside0.mk H
              clear H
              have p4 : 0 ≤ (x3_1 : Int) := of_decide_eq_true zx11_0
              have q4 : x3_1 < (a0.size : Int) := of_decide_eq_true zx11_0
              have hx4 := bt_at a0 x3_1
              replace p4 := eq_true p4
              replace q4 := eq_true q4
              have p15 : 0 ≤ (x3_1 : Int) := of_decide_eq_true zx11_0
              have q15 : x3_1 < (a0.size : Int) := of_decide_eq_true zx11_0
              have hx15 := bt_at a0 x3_1
              replace p15 := eq_true p15
              replace q15 := eq_true q15
              go_wp2
              go_roundg k1
              case measure => have := HK1.out; omega
              case rel => exact ⟨(wrap64 (x3_1 + 1)), (by first | rfl | (simp; done) | (simp [*]; done)), H', ⟨by have := HK1.out; omega⟩, by repeat (first | exact Drawn0.refl _ | apply Drawn0.step)⟩
            · rw [if_neg c16] at H
              have c16b0 : ((bt a0 x3_1) == 95) = false := beq_eq_false_iff_ne.mpr c16
              have c16b1 : ((bt a0 x3_1) != 95) = true := bne_iff_ne.mpr c16
              by_cases c17 : x3_1 = 0
              · rw [if_pos c17] at H
                have c17b0 : (x3_1 == 0) = true := beq_iff_eq.mpr c17
                have c17b1 : (x3_1 != 0) = false := bne_eq_false_iff_eq.mpr c17
                clear c17
                obtain rfl := Option.some.inj H
                have p4 : 0 ≤ (x3_1 : Int) := of_decide_eq_true zx11_0
                have q4 : x3_1 < (a0.size : Int) := of_decide_eq_true zx11_0
                have hx4 := bt_at a0 x3_1
                replace p4 := eq_true p4
                replace q4 := eq_true q4
                have p15 : 0 ≤ (x3_1 : Int) := of_decide_eq_true zx11_0
                have q15 : x3_1 < (a0.size : Int) := of_decide_eq_true zx11_0
                have hx15 := bt_at a0 x3_1
                replace p15 := eq_true p15
                replace q15 := eq_true q15
                go_wp2
                go_ret
                exact ⟨by first | rfl | (simp; done) | (simp [*]; done), by repeat (first | exact Drawn0.refl _ | apply Drawn0.step)⟩
              · rw [if_neg c17] at H
                have c17b0 : (x3_1 == 0) = false := beq_eq_false_iff_ne.mpr c17
                have c17b1 : (x3_1 != 0) = true := bne_iff_ne.mpr c17
                by_cases c19 : (bt a0 x3_1) < 48
                · rw [if_pos c19] at H
                  have c19b0 : decide ((bt a0 x3_1) < 48) = true := decide_eq_true c19
                  clear c19
                  obtain rfl := Option.some.inj H
                  have p4 : 0 ≤ (x3_1 : Int) := of_decide_eq_true zx11_0
                  have q4 : x3_1 < (a0.size : Int) := of_decide_eq_true zx11_0
                  have hx4 := bt_at a0 x3_1
                  replace p4 := eq_true p4
                  replace q4 := eq_true q4
                  have p15 : 0 ≤ (x3_1 : Int) := of_decide_eq_true zx11_0
                  have q15 : x3_1 < (a0.size : Int) := of_decide_eq_true zx11_0
                  have hx15 := bt_at a0 x3_1
                  replace p15 := eq_true p15
                  replace q15 := eq_true q15
                  have p18 : 0 ≤ (x3_1 : Int) := of_decide_eq_true zx11_0
                  have q18 : x3_1 < (a0.size : Int) := of_decide_eq_true zx11_0
                  have hx18 := bt_at a0 x3_1
                  replace p18 := eq_true p18
                  replace q18 := eq_true q18
                  go_wp2
                  go_ret
                  exact ⟨by first | rfl | (simp; done) | (simp [*]; done), by repeat (first | exact Drawn0.refl _ | apply Drawn0.step)⟩
                · rw [if_neg c19] at H
                  have c19b0 : decide ((bt a0 x3_1) < 48) = false := decide_eq_false c19
                  clear c19
                  by_cases c21 : (bt a0 x3_1) > 57
                  · rw [if_pos c21] at H
                    have c21b0 : decide (57 < (bt a0 x3_1)) = true := decide_eq_true c21
                    clear c21
                    obtain rfl := Option.some.inj H
                    have p4 : 0 ≤ (x3_1 : Int) := of_decide_eq_true zx11_0
                    have q4 : x3_1 < (a0.size : Int) := of_decide_eq_true zx11_0
                    have hx4 := bt_at a0 x3_1
                    replace p4 := eq_true p4
                    replace q4 := eq_true q4
                    have p15 : 0 ≤ (x3_1 : Int) := of_decide_eq_true zx11_0
                    have q15 : x3_1 < (a0.size : Int) := of_decide_eq_true zx11_0
                    have hx15 := bt_at a0 x3_1
                    replace p15 := eq_true p15
                    replace q15 := eq_true q15
                    have p18 : 0 ≤ (x3_1 : Int) := of_decide_eq_true zx11_0
                    have q18 : x3_1 < (a0.size : Int) := of_decide_eq_true zx11_0
                    have hx18 := bt_at a0 x3_1
                    replace p18 := eq_true p18
                    replace q18 := eq_true q18
                    have p20 : 0 ≤ (x3_1 : Int) := of_decide_eq_true zx11_0
                    have q20 : x3_1 < (a0.size : Int) := of_decide_eq_true zx11_0
                    have hx20 := bt_at a0 x3_1
                    replace p20 := eq_true p20
                    replace q20 := eq_true q20
                    go_wp2
                    go_ret
                    exact ⟨by first | rfl | (simp; done) | (simp [*]; done), by repeat (first | exact Drawn0.refl _ | apply Drawn0.step)⟩
                  · rw [if_neg c21] at H
                    have c21b0 : decide (57 < (bt a0 x3_1)) = false := decide_eq_false c21
                    clear c21
                    have H' := Aside0.mk H
                    clear H
                    have p4 : 0 ≤ (x3_1 : Int) := of_decide_eq_true zx11_0
                    have q4 : x3_1 < (a0.size : Int) := of_decide_eq_true zx11_0
                    have hx4 := bt_at a0 x3_1
                    replace p4 := eq_true p4
                    replace q4 := eq_true q4
                    have p15 : 0 ≤ (x3_1 : Int) := of_decide_eq_true zx11_0
                    have q15 : x3_1 < (a0.size : Int) := of_decide_eq_true zx11_0
                    have hx15 := bt_at a0 x3_1
                    replace p15 := eq_true p15
                    replace q15 := eq_true q15
                    have p18 : 0 ≤ (x3_1 : Int) := of_decide_eq_true zx11_0
                    have q18 : x3_1 < (a0.size : Int) := of_decide_eq_true zx11_0
                    have hx18 := bt_at a0 x3_1
                    replace p18 := eq_true p18
                    replace q18 := eq_true q18
                    have p20 : 0 ≤ (x3_1 : Int) := of_decide_eq_true zx11_0
                    have q20 : x3_1 < (a0.size : Int) := of_decide_eq_true zx11_0
                    have hx20 := bt_at a0 x3_1
                    replace p20 := eq_true p20
                    replace q20 := eq_true q20
                    go_wp2
                    go_roundg k1
                    case measure => have := HK1.out; omega
                    case rel => exact ⟨(wrap64 (x3_1 + 1)), (by first | rfl | (simp; done) | (simp [*]; done)), H', ⟨by have := HK1.out; omega⟩, by repeat (first | exact Drawn0.refl _ | apply Drawn0.step)⟩
        · rw [if_neg c3] at H
          exact absurd H (by simp)
      · rw [if_neg c2] at H
        have c2b0 : decide (x3_1 < (a0.size : Int)) = false := decide_eq_false c2
        clear c2
        by_cases c22 : (a0.size : Int) ≥ 1
        · rw [if_pos c22] at H
          have c22b0 : decide (1 ≤ (a0.size : Int)) = true := decide_eq_true c22
          have c22b1 : decide (1 ≤ a0.size) = true := decide_eq_true (by omega)
          clear c22
          obtain rfl := Option.some.inj H
          go_wp2
          go_ret
          exact ⟨by first | rfl | (simp; done) | (simp [*]; done), by repeat (first | exact Drawn0.refl _ | apply Drawn0.step)⟩
        · rw [if_neg c22] at H
          have c22b0 : decide (1 ≤ (a0.size : Int)) = false := decide_eq_false c22
          have c22b1 : decide (1 ≤ a0.size) = false := decide_eq_false (by omega)
          clear c22
          obtain rfl := Option.some.inj H
          go_wp2
          go_ret
          exact ⟨by first | rfl | (simp; done) | (simp [*]; done), by repeat (first | exact Drawn0.refl _ | apply Drawn0.step)⟩

end Go.Proofs.YthaegbiblblccaaGreatDoor.XEnt
end
section
/- What the functions of the translation answer, each as a plain Lean function, and that the code comes to it; for a law: its row. Conditions: none but those that each theorem names. Written by a program of this session (wip/xp). -/
namespace Go.Proofs.YthaegbiblblccaaGreatDoor.XEnt
open Go.RowKit Go.Proofs.YthaegbiblblccaaGreatDoorW.PrintWords Go.Proofs.YthaegbiblblccaaGreatDoorW.PrintLast Go.Proofs.YthaegbiblblccaaGreatDoorW.PrintMore
attribute [local go_sem] max2_int min2_int max_two min_two max_three min_three max_four min_four   -- for this text's walks alone
theorem zx12_0 {p : Prop} (h : p := by first | (with_reducible assumption) | assumption) : p := h
set_option linter.unusedVariables false
set_option linter.unusedSimpArgs false

/-! ### postroomref3_Check: function 34 -/
mutual
def postroomref3_Check.l0 : Nat → List (S52) → Int → Option (Int)
  | 0, _, _ => none
  | k + 1, x0, x3 => if x3 < (x0.length : Int) then (if 0 ≤ x3 then ((postroomref3_Name.f k ((rd_T52 x0 x3).f0)).bind fun t153 => (if t153 = true then (if (((rd_T52 x0 x3).f1).size : Int) > 40 then (some 7) else (postroomref3_Check.l1 k x0 x3 0)) else (some 3))) else (none)) else (some 0)
def postroomref3_Check.l1 : Nat → List (S52) → Int → Int → Option (Int)
  | 0, _, _, _ => none
  | k + 1, x0, x3, x4 => if x4 < x3 then (if 0 ≤ x4 then (if x4 < (x0.length : Int) then (if 0 ≤ x3 then (if x3 < (x0.length : Int) then (if ((rd_T52 x0 x4).f0).toList = ((rd_T52 x0 x3).f0).toList then (some 4) else (postroomref3_Check.l1 k x0 x3 (wrap64 (x4 + 1)))) else (none)) else (none)) else (none)) else (none)) else (postroomref3_Check.l0 k x0 (wrap64 (x3 + 1)))
end
def postroomref3_Check.f (k : Nat) (l0 : List (S52)) : Option (Int) := if (l0.length : Int) > 8 then (some 6) else (postroomref3_Check.l0 k l0 0)
theorem postroomref3_Check.mono_l : ∀ k, (∀ y0 y1, LeO (postroomref3_Check.l0 k y0 y1) (postroomref3_Check.l0 (k + 1) y0 y1)) ∧ (∀ y0 y1 y2, LeO (postroomref3_Check.l1 k y0 y1 y2) (postroomref3_Check.l1 (k + 1) y0 y1 y2))
  | 0 => ⟨fun _ _ r h => by simp [postroomref3_Check.l0] at h, fun _ _ _ r h => by simp [postroomref3_Check.l1] at h⟩
  | k + 1 => by
    obtain ⟨ih0, ih1⟩ := postroomref3_Check.mono_l k
    refine ⟨?_, ?_⟩
    · intro y0 y1
      unfold postroomref3_Check.l0
      repeat' first
      | (with_reducible exact ih0 _ _)
      | (with_reducible exact ih1 _ _ _)
      | (with_reducible exact postroomref3_Name.mono _ _)
      | (with_reducible exact LeO.refl _)
      | (with_reducible exact LeO.none _)
      | (with_reducible refine LeO.ite ?_ ?_)
      | (with_reducible refine LeO.bind ?_ (fun _ => ?_))
      | exact ih0 _ _
      | exact ih1 _ _ _
      | exact postroomref3_Name.mono _ _
      | exact LeO.none _
      | refine LeO.ite ?_ ?_
      | refine LeO.bind ?_ (fun _ => ?_)
    · intro y0 y1 y2
      unfold postroomref3_Check.l1
      repeat' first
      | (with_reducible exact ih0 _ _)
      | (with_reducible exact ih1 _ _ _)
      | (with_reducible exact postroomref3_Name.mono _ _)
      | (with_reducible exact LeO.refl _)
      | (with_reducible exact LeO.none _)
      | (with_reducible refine LeO.ite ?_ ?_)
      | (with_reducible refine LeO.bind ?_ (fun _ => ?_))
      | exact ih0 _ _
      | exact ih1 _ _ _
      | exact postroomref3_Name.mono _ _
      | exact LeO.none _
      | refine LeO.ite ?_ ?_
      | refine LeO.bind ?_ (fun _ => ?_)
theorem postroomref3_Check.mono : ∀ a0 k, LeO (postroomref3_Check.f k a0) (postroomref3_Check.f (k + 1) a0) := by
  intro a0 k
  obtain ⟨ih0, ih1⟩ := postroomref3_Check.mono_l k
  unfold postroomref3_Check.f
  repeat' first
      | (with_reducible exact ih0 _ _)
      | (with_reducible exact ih1 _ _ _)
      | (with_reducible exact postroomref3_Name.mono _ _)
      | (with_reducible exact LeO.refl _)
      | (with_reducible exact LeO.none _)
      | (with_reducible refine LeO.ite ?_ ?_)
      | (with_reducible refine LeO.bind ?_ (fun _ => ?_))
      | exact ih0 _ _
      | exact ih1 _ _ _
      | exact postroomref3_Name.mono _ _
      | exact LeO.none _
      | refine LeO.ite ?_ ?_
      | refine LeO.bind ?_ (fun _ => ?_)
set_option maxHeartbeats 8000000 in
set_option maxRecDepth 100000 in
theorem postroomref3_Check.calls (k : Nat) (A0 : Option Addr) (c0 : Nat) (l0 : List (S52)) (r : Int) (w : World) (hr0 : Kd.C k52 w A0 l0.length l0) (hc0 : l0.length ≤ c0) (h : postroomref3_Check.f k l0 = some r) :
    Calls Tryz.prog 34 #[.slice A0 l0.length c0] w fun e w' => e = .returned (.int .i64 r) ∧ Drawn0 w w' := by
  have HR0 := Aside0.mk hr0
  have HC0 := Aside0.mk hc0
  clear hr0 hc0
  have H : (if (l0.length : Int) > 8 then (some 6) else (postroomref3_Check.l0 k l0 0)) = some r := h
  clear h
  by_cases c2 : (l0.length : Int) > 8
  · rw [if_pos c2] at H
    have c2b0 : decide (8 < (l0.length : Int)) = true := decide_eq_true c2
    have c2b1 : decide (8 < l0.length) = true := decide_eq_true (by omega)
    clear c2
    obtain rfl := Option.some.inj H
    go_enter Tryz.func34, Tryz.ntmps34
    go_wp2
    repeat (go_quiet (fail); try go_wp2)
    go_ret
    exact ⟨by first | rfl | (simp; done) | (simp [*]; done), by repeat (first | exact Drawn0.refl _ | apply Drawn0.step)⟩
  · rw [if_neg c2] at H
    have c2b0 : decide (8 < (l0.length : Int)) = false := decide_eq_false c2
    have c2b1 : decide (8 < l0.length) = false := decide_eq_false (by omega)
    clear c2
    have H' := Aside0.mk H
    clear H
    go_enter Tryz.func34, Tryz.ntmps34
    go_wp2
    repeat (go_quiet (fail); try go_wp2)
    go_loopg [3] k (fun kq v3 w' => ∃ (x3_1 : Int), v3 = .int .i64 x3_1 ∧ Aside0 (postroomref3_Check.l0 kq l0 x3_1 = some r) ∧ Aside0 (kq ≤ k) ∧ Drawn0 w w')
    case atStart => exact ⟨(0), (by first | rfl | (simp; done) | (simp [*]; done)), H', ⟨Nat.le_refl _⟩, by repeat (first | exact Drawn0.refl _ | apply Drawn0.step)⟩
    case round =>
      clear H'
      try clear c2
      try clear c2b0
      try clear c2b1
      try clear p2
      obtain ⟨x3_1, rfl, HA, HK1, ⟨m1, rfl⟩⟩ := hrel
      cases gk with
      | zero => exact absurd HA.out (by simp [postroomref3_Check.l0])
      | succ k1 =>
        have H := HA.out
        clear HA
        simp only [postroomref3_Check.l0] at H
        by_cases c3 : x3_1 < (l0.length : Int)
        · rw [if_pos c3] at H
          have c3b0 : decide (x3_1 < (l0.length : Int)) = true := decide_eq_true c3
          clear c3
          by_cases c4 : 0 ≤ x3_1
          · rw [if_pos c4] at H
            have c4b0 : decide (0 ≤ x3_1) = true := decide_eq_true c4
            clear c4
            replace H := Option.bind_eq_some_iff.mp H
            obtain ⟨t153, A50, H⟩ := H
            replace H : (if t153 = true then (if (((rd_T52 l0 x3_1).f1).size : Int) > 40 then (some 7) else (postroomref3_Check.l1 k1 l0 x3_1 0)) else (some 3)) = some r := H
            have A5 := Aside0.mk A50
            clear A50
            by_cases c6 : t153 = true
            · subst c6
              have H1 : (if (((rd_T52 l0 x3_1).f1).size : Int) > 40 then (some 7) else (postroomref3_Check.l1 k1 l0 x3_1 0)) = some r := by rw [if_pos rfl] at H; exact H
              clear H
              have H := H1
              clear H1
              by_cases c7 : (((rd_T52 l0 x3_1).f1).size : Int) > 40
              · rw [if_pos c7] at H
                have c7b0 : decide (40 < (((rd_T52 l0 x3_1).f1).size : Int)) = true := decide_eq_true c7
                have c7b1 : decide (40 < ((rd_T52 l0 x3_1).f1).size) = true := decide_eq_true (by omega)
                clear c7
                obtain rfl := Option.some.inj H
                have p152 : 0 ≤ (x3_1 : Int) := of_decide_eq_true zx12_0
                have q152 : x3_1 < (l0.length : Int) := of_decide_eq_true zx12_0
                obtain ⟨ad152, e152, hx152_0, hx152_1⟩ := at_T52 HR0.out x3_1 p152 q152
                cases e152
                replace p152 := eq_true p152
                replace q152 := eq_true q152
                go_wp2_with (first | (go_at_call 59; (with_reducible refine (postroomref3_Name.calls k1 ((rd_T52 l0 x3_1).f0) true _ A5.out).mono ?_); rintro e w' ⟨rfl, ⟨nd, rfl⟩⟩; (try first | exact ⟨rfl, _, World.drewN_drewN _ _ _⟩ | exact ⟨rfl, _, Eq.trans (World.drewN_drewN _ _ _) (congrArg (World.drewN _) (Nat.add_assoc _ _ _))⟩); have p154 : 0 ≤ (x3_1 : Int) := of_decide_eq_true zx12_0; have q154 : x3_1 < (l0.length : Int) := of_decide_eq_true zx12_0; obtain ⟨ad154, e154, hx154_0, hx154_1⟩ := at_T52 HR0.out x3_1 p154 q154; obtain rfl : ad152 = ad154 := (by injection e154); replace p154 := eq_true p154; replace q154 := eq_true q154))
                repeat (go_quiet (first | (go_at_call 59; (with_reducible refine (postroomref3_Name.calls k1 ((rd_T52 l0 x3_1).f0) true _ A5.out).mono ?_); rintro e w' ⟨rfl, ⟨nd, rfl⟩⟩; (try first | exact ⟨rfl, _, World.drewN_drewN _ _ _⟩ | exact ⟨rfl, _, Eq.trans (World.drewN_drewN _ _ _) (congrArg (World.drewN _) (Nat.add_assoc _ _ _))⟩); have p154 : 0 ≤ (x3_1 : Int) := of_decide_eq_true zx12_0; have q154 : x3_1 < (l0.length : Int) := of_decide_eq_true zx12_0; obtain ⟨ad154, e154, hx154_0, hx154_1⟩ := at_T52 HR0.out x3_1 p154 q154; obtain rfl : ad152 = ad154 := (by injection e154); replace p154 := eq_true p154; replace q154 := eq_true q154)); try go_wp2_with (first | (go_at_call 59; (with_reducible refine (postroomref3_Name.calls k1 ((rd_T52 l0 x3_1).f0) true _ A5.out).mono ?_); rintro e w' ⟨rfl, ⟨nd, rfl⟩⟩; (try first | exact ⟨rfl, _, World.drewN_drewN _ _ _⟩ | exact ⟨rfl, _, Eq.trans (World.drewN_drewN _ _ _) (congrArg (World.drewN _) (Nat.add_assoc _ _ _))⟩); have p154 : 0 ≤ (x3_1 : Int) := of_decide_eq_true zx12_0; have q154 : x3_1 < (l0.length : Int) := of_decide_eq_true zx12_0; obtain ⟨ad154, e154, hx154_0, hx154_1⟩ := at_T52 HR0.out x3_1 p154 q154; obtain rfl : ad152 = ad154 := (by injection e154); replace p154 := eq_true p154; replace q154 := eq_true q154)))
                go_ret
                exact ⟨by first | rfl | (simp; done) | (simp [*]; done), by repeat (first | exact Drawn0.refl _ | apply Drawn0.step)⟩
              · rw [if_neg c7] at H
                have c7b0 : decide (40 < (((rd_T52 l0 x3_1).f1).size : Int)) = false := decide_eq_false c7
                have c7b1 : decide (40 < ((rd_T52 l0 x3_1).f1).size) = false := decide_eq_false (by omega)
                clear c7
                have H' := Aside0.mk H
                clear H
                have p152 : 0 ≤ (x3_1 : Int) := of_decide_eq_true zx12_0
                have q152 : x3_1 < (l0.length : Int) := of_decide_eq_true zx12_0
                obtain ⟨ad152, e152, hx152_0, hx152_1⟩ := at_T52 HR0.out x3_1 p152 q152
                cases e152
                replace p152 := eq_true p152
                replace q152 := eq_true q152
                go_wp2_with (first | (go_at_call 59; (with_reducible refine (postroomref3_Name.calls k1 ((rd_T52 l0 x3_1).f0) true _ A5.out).mono ?_); rintro e w' ⟨rfl, ⟨nd, rfl⟩⟩; (try first | exact ⟨rfl, _, World.drewN_drewN _ _ _⟩ | exact ⟨rfl, _, Eq.trans (World.drewN_drewN _ _ _) (congrArg (World.drewN _) (Nat.add_assoc _ _ _))⟩); have p154 : 0 ≤ (x3_1 : Int) := of_decide_eq_true zx12_0; have q154 : x3_1 < (l0.length : Int) := of_decide_eq_true zx12_0; obtain ⟨ad154, e154, hx154_0, hx154_1⟩ := at_T52 HR0.out x3_1 p154 q154; obtain rfl : ad152 = ad154 := (by injection e154); replace p154 := eq_true p154; replace q154 := eq_true q154))
                repeat (go_quiet (first | (go_at_call 59; (with_reducible refine (postroomref3_Name.calls k1 ((rd_T52 l0 x3_1).f0) true _ A5.out).mono ?_); rintro e w' ⟨rfl, ⟨nd, rfl⟩⟩; (try first | exact ⟨rfl, _, World.drewN_drewN _ _ _⟩ | exact ⟨rfl, _, Eq.trans (World.drewN_drewN _ _ _) (congrArg (World.drewN _) (Nat.add_assoc _ _ _))⟩); have p154 : 0 ≤ (x3_1 : Int) := of_decide_eq_true zx12_0; have q154 : x3_1 < (l0.length : Int) := of_decide_eq_true zx12_0; obtain ⟨ad154, e154, hx154_0, hx154_1⟩ := at_T52 HR0.out x3_1 p154 q154; obtain rfl : ad152 = ad154 := (by injection e154); replace p154 := eq_true p154; replace q154 := eq_true q154)); try go_wp2_with (first | (go_at_call 59; (with_reducible refine (postroomref3_Name.calls k1 ((rd_T52 l0 x3_1).f0) true _ A5.out).mono ?_); rintro e w' ⟨rfl, ⟨nd, rfl⟩⟩; (try first | exact ⟨rfl, _, World.drewN_drewN _ _ _⟩ | exact ⟨rfl, _, Eq.trans (World.drewN_drewN _ _ _) (congrArg (World.drewN _) (Nat.add_assoc _ _ _))⟩); have p154 : 0 ≤ (x3_1 : Int) := of_decide_eq_true zx12_0; have q154 : x3_1 < (l0.length : Int) := of_decide_eq_true zx12_0; obtain ⟨ad154, e154, hx154_0, hx154_1⟩ := at_T52 HR0.out x3_1 p154 q154; obtain rfl : ad152 = ad154 := (by injection e154); replace p154 := eq_true p154; replace q154 := eq_true q154)))
                go_loopg [4] k1 (fun kq v4 w' => ∃ (x4_2 : Int), v4 = .int .i64 x4_2 ∧ Aside0 (postroomref3_Check.l1 kq l0 x3_1 x4_2 = some r) ∧ Aside0 (kq ≤ k1) ∧ Drawn0 w w')
                case atStart => exact ⟨(0), (by first | rfl | (simp; done) | (simp [*]; done)), H', ⟨Nat.le_refl _⟩, by repeat (first | exact Drawn0.refl _ | apply Drawn0.step)⟩
                case round =>
                  clear H'
                  try clear p1
                  try clear q1
                  try clear hx1
                  try clear c2
                  try clear c2b0
                  try clear c2b1
                  try clear p2
                  try clear c3
                  try clear c3b0
                  try clear c4
                  try clear c4b0
                  try clear c6
                  try clear c7
                  try clear c7b0
                  try clear c7b1
                  try clear hx152_0
                  try clear hx152_1
                  try clear hx154_0
                  try clear hx154_1
                  try clear p152
                  try clear p154
                  try clear p2
                  try clear q152
                  try clear q154
                  obtain ⟨x4_2, rfl, HA, HK2, ⟨m2, rfl⟩⟩ := hrel
                  cases gk with
                  | zero => exact absurd HA.out (by simp [postroomref3_Check.l1])
                  | succ k2 =>
                    have H := HA.out
                    clear HA
                    simp only [postroomref3_Check.l1] at H
                    by_cases c8 : x4_2 < x3_1
                    · rw [if_pos c8] at H
                      have c8b0 : decide (x4_2 < x3_1) = true := decide_eq_true c8
                      clear c8
                      by_cases c9 : 0 ≤ x4_2
                      · rw [if_pos c9] at H
                        have c9b0 : decide (0 ≤ x4_2) = true := decide_eq_true c9
                        clear c9
                        by_cases c10 : x4_2 < (l0.length : Int)
                        · rw [if_pos c10] at H
                          have c10b0 : decide (x4_2 < (l0.length : Int)) = true := decide_eq_true c10
                          clear c10
                          by_cases c11 : 0 ≤ x3_1
                          · rw [if_pos c11] at H
                            have c11b0 : decide (0 ≤ x3_1) = true := decide_eq_true c11
                            clear c11
                            by_cases c12 : x3_1 < (l0.length : Int)
                            · rw [if_pos c12] at H
                              have c12b0 : decide (x3_1 < (l0.length : Int)) = true := decide_eq_true c12
                              clear c12
                              by_cases c13 : ((rd_T52 l0 x4_2).f0).toList = ((rd_T52 l0 x3_1).f0).toList
                              · rw [if_pos c13] at H
                                have c13b0 : (((rd_T52 l0 x4_2).f0).toList == ((rd_T52 l0 x3_1).f0).toList) = true := beq_iff_eq.mpr c13
                                have c13b1 : (((rd_T52 l0 x4_2).f0).toList != ((rd_T52 l0 x3_1).f0).toList) = false := bne_eq_false_iff_eq.mpr c13
                                clear c13
                                obtain rfl := Option.some.inj H
                                have p155 : 0 ≤ (x4_2 : Int) := of_decide_eq_true zx12_0
                                have q155 : x4_2 < (l0.length : Int) := of_decide_eq_true zx12_0
                                obtain ⟨ad155, e155, hx155_0, hx155_1⟩ := at_T52 HR0.out x4_2 p155 q155
                                obtain rfl : ad152 = ad155 := (by injection e155)
                                replace p155 := eq_true p155
                                replace q155 := eq_true q155
                                have p156 : 0 ≤ (x3_1 : Int) := of_decide_eq_true zx12_0
                                have q156 : x3_1 < (l0.length : Int) := of_decide_eq_true zx12_0
                                obtain ⟨ad156, e156, hx156_0, hx156_1⟩ := at_T52 HR0.out x3_1 p156 q156
                                obtain rfl : ad152 = ad156 := (by injection e156)
                                replace p156 := eq_true p156
                                replace q156 := eq_true q156
                                go_wp2
                                repeat (go_quiet (fail); try go_wp2)
                                go_ret
                                exact ⟨by first | rfl | (simp; done) | (simp [*]; done), by repeat (first | exact Drawn0.refl _ | apply Drawn0.step)⟩
                              · rw [if_neg c13] at H
                                have c13b0 : (((rd_T52 l0 x4_2).f0).toList == ((rd_T52 l0 x3_1).f0).toList) = false := beq_eq_false_iff_ne.mpr c13
                                have c13b1 : (((rd_T52 l0 x4_2).f0).toList != ((rd_T52 l0 x3_1).f0).toList) = true := bne_iff_ne.mpr c13
                                have H' := Aside0.mk H
                                clear H
                                have p155 : 0 ≤ (x4_2 : Int) := of_decide_eq_true zx12_0
                                have q155 : x4_2 < (l0.length : Int) := of_decide_eq_true zx12_0
                                obtain ⟨ad155, e155, hx155_0, hx155_1⟩ := at_T52 HR0.out x4_2 p155 q155
                                obtain rfl : ad152 = ad155 := (by injection e155)
                                replace p155 := eq_true p155
                                replace q155 := eq_true q155
                                have p156 : 0 ≤ (x3_1 : Int) := of_decide_eq_true zx12_0
                                have q156 : x3_1 < (l0.length : Int) := of_decide_eq_true zx12_0
                                obtain ⟨ad156, e156, hx156_0, hx156_1⟩ := at_T52 HR0.out x3_1 p156 q156
                                obtain rfl : ad152 = ad156 := (by injection e156)
                                replace p156 := eq_true p156
                                replace q156 := eq_true q156
                                go_wp2
                                repeat (go_quiet (fail); try go_wp2)
                                go_roundg k2
                                case measure => have := HK1.out; have := HK2.out; omega
                                case rel => exact ⟨(wrap64 (x4_2 + 1)), (by first | rfl | (simp; done) | (simp [*]; done)), H', ⟨by have := HK1.out; have := HK2.out; omega⟩, by repeat (first | exact Drawn0.refl _ | apply Drawn0.step)⟩
                            · rw [if_neg c12] at H
                              exact absurd H (by simp)
                          · rw [if_neg c11] at H
                            exact absurd H (by simp)
                        · rw [if_neg c10] at H
                          exact absurd H (by simp)
                      · rw [if_neg c9] at H
                        exact absurd H (by simp)
                    · rw [if_neg c8] at H
                      have c8b0 : decide (x4_2 < x3_1) = false := decide_eq_false c8
                      clear c8
                      have H' := Aside0.mk H
                      clear H
                      go_wp2
                      repeat (go_quiet (fail); try go_wp2)
                      go_roundg k2
                      case measure => have := HK1.out; have := HK2.out; omega
                      case rel => exact ⟨(wrap64 (x3_1 + 1)), (by first | rfl | (simp; done) | (simp [*]; done)), H', ⟨by have := HK1.out; have := HK2.out; omega⟩, by repeat (first | exact Drawn0.refl _ | apply Drawn0.step)⟩
            · replace c6 := Bool.eq_false_iff.mpr c6
              subst c6
              have H1 : (some 3) = some r := by rw [if_neg (show ¬ (false = true) by decide)] at H; exact H
              clear H
              have H := H1
              clear H1
              obtain rfl := Option.some.inj H
              have p152 : 0 ≤ (x3_1 : Int) := of_decide_eq_true zx12_0
              have q152 : x3_1 < (l0.length : Int) := of_decide_eq_true zx12_0
              obtain ⟨ad152, e152, hx152_0, hx152_1⟩ := at_T52 HR0.out x3_1 p152 q152
              cases e152
              replace p152 := eq_true p152
              replace q152 := eq_true q152
              go_wp2_with (first | (go_at_call 59; (with_reducible refine (postroomref3_Name.calls k1 ((rd_T52 l0 x3_1).f0) false _ A5.out).mono ?_); rintro e w' ⟨rfl, ⟨nd, rfl⟩⟩; (try first | exact ⟨rfl, _, World.drewN_drewN _ _ _⟩ | exact ⟨rfl, _, Eq.trans (World.drewN_drewN _ _ _) (congrArg (World.drewN _) (Nat.add_assoc _ _ _))⟩)))
              repeat (go_quiet (first | (go_at_call 59; (with_reducible refine (postroomref3_Name.calls k1 ((rd_T52 l0 x3_1).f0) false _ A5.out).mono ?_); rintro e w' ⟨rfl, ⟨nd, rfl⟩⟩; (try first | exact ⟨rfl, _, World.drewN_drewN _ _ _⟩ | exact ⟨rfl, _, Eq.trans (World.drewN_drewN _ _ _) (congrArg (World.drewN _) (Nat.add_assoc _ _ _))⟩))); try go_wp2_with (first | (go_at_call 59; (with_reducible refine (postroomref3_Name.calls k1 ((rd_T52 l0 x3_1).f0) false _ A5.out).mono ?_); rintro e w' ⟨rfl, ⟨nd, rfl⟩⟩; (try first | exact ⟨rfl, _, World.drewN_drewN _ _ _⟩ | exact ⟨rfl, _, Eq.trans (World.drewN_drewN _ _ _) (congrArg (World.drewN _) (Nat.add_assoc _ _ _))⟩))))
              go_ret
              exact ⟨by first | rfl | (simp; done) | (simp [*]; done), by repeat (first | exact Drawn0.refl _ | apply Drawn0.step)⟩
          · rw [if_neg c4] at H
            exact absurd H (by simp)
        · rw [if_neg c3] at H
          have c3b0 : decide (x3_1 < (l0.length : Int)) = false := decide_eq_false c3
          clear c3
          obtain rfl := Option.some.inj H
          go_wp2
          repeat (go_quiet (fail); try go_wp2)
          go_ret
          exact ⟨by first | rfl | (simp; done) | (simp [*]; done), by repeat (first | exact Drawn0.refl _ | apply Drawn0.step)⟩

end Go.Proofs.YthaegbiblblccaaGreatDoor.XEnt
end
section
/- What the functions of the translation answer, each as a plain Lean function, and that the code comes to it; for a law: its row. Conditions: none but those that each theorem names. Written by a program of this session (wip/xp). -/
namespace Go.Proofs.YthaegbiblblccaaGreatDoor.XEnt
open Go.RowKit Go.Proofs.YthaegbiblblccaaGreatDoorW.PrintWords Go.Proofs.YthaegbiblblccaaGreatDoorW.PrintLast Go.Proofs.YthaegbiblblccaaGreatDoorW.PrintMore
attribute [local go_sem] max2_int min2_int max_two min_two max_three min_three max_four min_four   -- for this text's walks alone
theorem zx13_2 {p : Prop} (h : p := by first | rfl | (simp; done) | (simp [*]; done)) : p := h
theorem zx13_1 {p : Prop} (h : p := by first | (with_reducible assumption) | assumption) : p := h
theorem zx13_0 {p : Prop} (h : p := by repeat (first | (with_reducible first | exact HB.out | apply below_alloc | apply pw_below_drewN | apply below_drew1) | exact HB.out)) : p := h
set_option linter.unusedVariables false
set_option linter.unusedSimpArgs false

/-! ### postroomref3_Canon: function 29 -/
mutual
def postroomref3_Canon.l0 : Nat → List (S52) → List (S52) → ByteArray → Option ((List (S52)) × Int)
  | 0, _, _, _ => none
  | k + 1, x0, x5, x6 => if (x5.length : Int) < (x0.length : Int) then (postroomref3_Canon.l1 k x0 x5 x6 (-1) 0) else (some (x5, 0))
def postroomref3_Canon.l1 : Nat → List (S52) → List (S52) → ByteArray → Int → Int → Option ((List (S52)) × Int)
  | 0, _, _, _, _, _ => none
  | k + 1, x0, x5, x6, x7, x8 => if x8 < (x0.length : Int) then (if 0 ≤ x8 then (if (Op.bytesLess x6.toList (((rd_T52 x0 x8).f0).toList)) = true then (if x7 < 0 then (postroomref3_Canon.l1 k x0 x5 x6 x8 (wrap64 (x8 + 1))) else (if 0 ≤ x7 then (if x7 < (x0.length : Int) then (if (Op.bytesLess (((rd_T52 x0 x8).f0).toList) (((rd_T52 x0 x7).f0).toList)) = true then (postroomref3_Canon.l1 k x0 x5 x6 x8 (wrap64 (x8 + 1))) else (postroomref3_Canon.l1 k x0 x5 x6 x7 (wrap64 (x8 + 1)))) else (none)) else (none))) else (postroomref3_Canon.l1 k x0 x5 x6 x7 (wrap64 (x8 + 1)))) else (none)) else (if 0 ≤ x7 then (if x7 < (x0.length : Int) then (if x5.length < 4398046511104 then (postroomref3_Canon.l0 k x0 (x5 ++ [(⟨(rd_T52 x0 x7).f0, (rd_T52 x0 x7).f1⟩ : S52)]) ((rd_T52 x0 x7).f0)) else (none)) else (none)) else (none))
end
def postroomref3_Canon.f (k : Nat) (l0 : List (S52)) : Option ((List (S52)) × Int) := (postroomref3_Check.f k l0).bind fun t157 => (if t157 = 0 then (postroomref3_Canon.l0 k l0 ([] : List (S52)) (⟨#[]⟩ : ByteArray)) else (some (([] : List (S52)), t157)))
theorem postroomref3_Canon.mono_l : ∀ k, (∀ y0 y1 y2, LeO (postroomref3_Canon.l0 k y0 y1 y2) (postroomref3_Canon.l0 (k + 1) y0 y1 y2)) ∧ (∀ y0 y1 y2 y3 y4, LeO (postroomref3_Canon.l1 k y0 y1 y2 y3 y4) (postroomref3_Canon.l1 (k + 1) y0 y1 y2 y3 y4))
  | 0 => ⟨fun _ _ _ r h => by simp [postroomref3_Canon.l0] at h, fun _ _ _ _ _ r h => by simp [postroomref3_Canon.l1] at h⟩
  | k + 1 => by
    obtain ⟨ih0, ih1⟩ := postroomref3_Canon.mono_l k
    refine ⟨?_, ?_⟩
    · intro y0 y1 y2
      unfold postroomref3_Canon.l0
      repeat' first
      | (with_reducible exact ih0 _ _ _)
      | (with_reducible exact ih1 _ _ _ _ _)
      | (with_reducible exact postroomref3_Check.mono _ _)
      | (with_reducible exact LeO.refl _)
      | (with_reducible exact LeO.none _)
      | (with_reducible refine LeO.ite ?_ ?_)
      | (with_reducible refine LeO.bind ?_ (fun _ => ?_))
      | exact ih0 _ _ _
      | exact ih1 _ _ _ _ _
      | exact postroomref3_Check.mono _ _
      | exact LeO.none _
      | refine LeO.ite ?_ ?_
      | refine LeO.bind ?_ (fun _ => ?_)
    · intro y0 y1 y2 y3 y4
      unfold postroomref3_Canon.l1
      repeat' first
      | (with_reducible exact ih0 _ _ _)
      | (with_reducible exact ih1 _ _ _ _ _)
      | (with_reducible exact postroomref3_Check.mono _ _)
      | (with_reducible exact LeO.refl _)
      | (with_reducible exact LeO.none _)
      | (with_reducible refine LeO.ite ?_ ?_)
      | (with_reducible refine LeO.bind ?_ (fun _ => ?_))
      | exact ih0 _ _ _
      | exact ih1 _ _ _ _ _
      | exact postroomref3_Check.mono _ _
      | exact LeO.none _
      | refine LeO.ite ?_ ?_
      | refine LeO.bind ?_ (fun _ => ?_)
theorem postroomref3_Canon.mono : ∀ a0 k, LeO (postroomref3_Canon.f k a0) (postroomref3_Canon.f (k + 1) a0) := by
  intro a0 k
  obtain ⟨ih0, ih1⟩ := postroomref3_Canon.mono_l k
  unfold postroomref3_Canon.f
  repeat' first
      | (with_reducible exact ih0 _ _ _)
      | (with_reducible exact ih1 _ _ _ _ _)
      | (with_reducible exact postroomref3_Check.mono _ _)
      | (with_reducible exact LeO.refl _)
      | (with_reducible exact LeO.none _)
      | (with_reducible refine LeO.ite ?_ ?_)
      | (with_reducible refine LeO.bind ?_ (fun _ => ?_))
      | exact ih0 _ _ _
      | exact ih1 _ _ _ _ _
      | exact postroomref3_Check.mono _ _
      | exact LeO.none _
      | refine LeO.ite ?_ ?_
      | refine LeO.bind ?_ (fun _ => ?_)
set_option maxHeartbeats 8000000 in
set_option maxRecDepth 100000 in
theorem postroomref3_Canon.calls (k : Nat) (A0 : Option Addr) (c0 : Nat) (l0 : List (S52)) (r1 : List (S52)) (r2 : Int) (w : World) (hr0 : Kd.C k52 w A0 l0.length l0) (hc0 : l0.length ≤ c0) (h : postroomref3_Canon.f k l0 = some (r1, r2)) :
    Calls Tryz.prog 29 #[.slice A0 l0.length c0] w fun e w' => ∃ v0_ : Value, e = .returned (.tuple #[v0_, .int .i64 r2]) ∧ Kd.R k52 52 w' w.heap.size (fun _ => True) v0_ r1 ∧ Below w.heap.size w w' := by
  have hu52 := Tryz.underlying52
  have HR0 := Aside0.mk hr0
  have HC0 := Aside0.mk hc0
  clear hr0 hc0
  have HB := Aside0.mk (Below.refl w.heap.size w)
  have H : ((postroomref3_Check.f k l0).bind fun t157 => (if t157 = 0 then (postroomref3_Canon.l0 k l0 ([] : List (S52)) (⟨#[]⟩ : ByteArray)) else (some (([] : List (S52)), t157)))) = some (r1, r2) := h
  clear h
  replace H := Option.bind_eq_some_iff.mp H
  obtain ⟨t157, A20, H⟩ := H
  replace H : (if t157 = 0 then (postroomref3_Canon.l0 k l0 ([] : List (S52)) (⟨#[]⟩ : ByteArray)) else (some (([] : List (S52)), t157))) = some (r1, r2) := H
  have A2 := Aside0.mk A20
  clear A20
  by_cases c3 : t157 = 0
  · rw [if_pos c3] at H
    have c3b0 : (t157 == 0) = true := beq_iff_eq.mpr c3
    have c3b1 : (t157 != 0) = false := bne_eq_false_iff_eq.mpr c3
    clear c3
    have H' := Aside0.mk H
    clear H
    go_enter Tryz.func29, Tryz.ntmps29
    go_wp2_with (first | (go_at_call 34; (with_reducible refine (postroomref3_Check.calls k _ _ l0 t157 _ ?side1 ?side2 A2.out).mono ?_); (case side1 => repeat (first | exact HR0.out | (with_reducible refine Kd.C_alloc ?_ _) | (with_reducible refine Kd.C_drewN ?_ _) | (with_reducible refine Kd.C_drew ?_))); (case side2 => exact HC0.out); rintro e w' ⟨rfl, ⟨nd, rfl⟩⟩; (try first | exact ⟨rfl, _, World.drewN_drewN _ _ _⟩ | exact ⟨rfl, _, Eq.trans (World.drewN_drewN _ _ _) (congrArg (World.drewN _) (Nat.add_assoc _ _ _))⟩)))
    repeat (go_quiet (first | (go_at_call 34; (with_reducible refine (postroomref3_Check.calls k _ _ l0 t157 _ ?side1 ?side2 A2.out).mono ?_); (case side1 => repeat (first | exact HR0.out | (with_reducible refine Kd.C_alloc ?_ _) | (with_reducible refine Kd.C_drewN ?_ _) | (with_reducible refine Kd.C_drew ?_))); (case side2 => exact HC0.out); rintro e w' ⟨rfl, ⟨nd, rfl⟩⟩; (try first | exact ⟨rfl, _, World.drewN_drewN _ _ _⟩ | exact ⟨rfl, _, Eq.trans (World.drewN_drewN _ _ _) (congrArg (World.drewN _) (Nat.add_assoc _ _ _))⟩))); try go_wp2_with (first | (go_at_call 34; (with_reducible refine (postroomref3_Check.calls k _ _ l0 t157 _ ?side1 ?side2 A2.out).mono ?_); (case side1 => repeat (first | exact HR0.out | (with_reducible refine Kd.C_alloc ?_ _) | (with_reducible refine Kd.C_drewN ?_ _) | (with_reducible refine Kd.C_drew ?_))); (case side2 => exact HC0.out); rintro e w' ⟨rfl, ⟨nd, rfl⟩⟩; (try first | exact ⟨rfl, _, World.drewN_drewN _ _ _⟩ | exact ⟨rfl, _, Eq.trans (World.drewN_drewN _ _ _) (congrArg (World.drewN _) (Nat.add_assoc _ _ _))⟩))))
    go_loopg [5, 6] k (fun kq v5 v6 w' => ∃ (x5_1 : List (S52)) (x6_1 : ByteArray), v6 = .string x6_1 ∧ Aside0 (postroomref3_Canon.l0 kq l0 x5_1 x6_1 = some (r1, r2)) ∧ Aside0 (kq ≤ k) ∧ Aside0 (Kd.R k52 52 w' w.heap.size (fun _ => True) v5 x5_1) ∧ Aside0 (Below w.heap.size w w'))
    case atStart => exact ⟨(([] : List (S52))), ((⟨#[]⟩ : ByteArray)), zx13_2, H', ⟨Nat.le_refl _⟩, ⟨by first | exact Kd.R_nil _ _ _ _ _ | exact Kd.N_nil _ _ _ _ _ | exact Kd.V_nil _ _ _ _ _ | exact Kd.Q_nil _ _ _ _ _ | exact Kd.S_nil _ _ _ _ _⟩, ⟨by repeat (first | (with_reducible first | exact HB.out | apply below_alloc | apply pw_below_drewN | apply below_drew1) | exact HB.out)⟩⟩
    case round =>
      clear H'
      try clear c2
      try clear p2
      try clear c3
      try clear c3b0
      try clear c3b1
      obtain ⟨x5_1, x6_1, rfl, HA, HK1, HO_5, HB⟩ := hrel
      cases gk with
      | zero => exact absurd HA.out (by simp [postroomref3_Canon.l0])
      | succ k1 =>
        have H := HA.out
        clear HA
        simp only [postroomref3_Canon.l0] at H
        by_cases c4 : (x5_1.length : Int) < (l0.length : Int)
        · rw [if_pos c4] at H
          have c4b0 : decide ((x5_1.length : Int) < (l0.length : Int)) = true := decide_eq_true c4
          have c4b1 : decide (x5_1.length < l0.length) = true := decide_eq_true (Int.ofNat_lt.mp c4)
          clear c4
          have H' := Aside0.mk H
          clear H
          obtain ⟨Ao5, co5, eo5⟩ := Kd.R_slice HO_5.out
          subst eo5
          go_wp2
          repeat (go_quiet (fail); try go_wp2)
          go_loopg [7, 8] k1 (fun kq v7 v8 w' => ∃ (x7_2 : Int) (x8_2 : Int), v7 = .int .i64 x7_2 ∧ v8 = .int .i64 x8_2 ∧ Aside0 (postroomref3_Canon.l1 kq l0 x5_1 x6_1 x7_2 x8_2 = some (r1, r2)) ∧ Aside0 (kq ≤ k1) ∧ Aside0 (Kd.R k52 52 w' w.heap.size (fun _ => True) (.slice Ao5 x5_1.length co5) x5_1) ∧ Aside0 (Below w.heap.size w w'))
          case atStart => exact ⟨((-1)), (0), zx13_2, zx13_2, H', ⟨Nat.le_refl _⟩, ⟨by (with_reducible repeat (first | apply Kd.R_alloc | apply Kd.R_drewN | apply Kd.R_drew)); exact HO_5.out⟩, ⟨by repeat (first | (with_reducible first | exact HB.out | apply below_alloc | apply pw_below_drewN | apply below_drew1) | exact HB.out)⟩⟩
          case round =>
            clear H'
            try clear c2
            try clear p2
            try clear c3
            try clear c3b0
            try clear c3b1
            try clear c4
            try clear c4b0
            try clear c4b1
            try clear p2
            obtain ⟨x7_2, x8_2, rfl, rfl, HA, HK2, HO_5, HB⟩ := hrel
            cases gk with
            | zero => exact absurd HA.out (by simp [postroomref3_Canon.l1])
            | succ k2 =>
              have H := HA.out
              clear HA
              simp only [postroomref3_Canon.l1] at H
              by_cases c6 : x8_2 < (l0.length : Int)
              · rw [if_pos c6] at H
                have c6b0 : decide (x8_2 < (l0.length : Int)) = true := decide_eq_true c6
                clear c6
                by_cases c7 : 0 ≤ x8_2
                · rw [if_pos c7] at H
                  have c7b0 : decide (0 ≤ x8_2) = true := decide_eq_true c7
                  clear c7
                  by_cases c8 : (Op.bytesLess x6_1.toList (((rd_T52 l0 x8_2).f0).toList)) = true
                  · rw [if_pos c8] at H
                    have c8b0 : (Op.bytesLess x6_1.toList (((rd_T52 l0 x8_2).f0).toList)) = true := c8
                    clear c8
                    by_cases c9 : x7_2 < 0
                    · rw [if_pos c9] at H
                      have c9b0 : decide (x7_2 < 0) = true := decide_eq_true c9
                      clear c9
                      have H' := Aside0.mk H
                      clear H
                      have p158 : 0 ≤ (x8_2 : Int) := of_decide_eq_true zx13_1
                      have q158 : x8_2 < (l0.length : Int) := of_decide_eq_true zx13_1
                      obtain ⟨ad158, e158, hx158_0, hx158_1⟩ := at_T52 HR0.out x8_2 p158 q158
                      cases e158
                      replace hx158_0 := (HB.out.cell (World.block_lt_of_cell? w _ hx158_0)).trans hx158_0
                      replace hx158_1 := (HB.out.cell (World.block_lt_of_cell? w _ hx158_1)).trans hx158_1
                      replace p158 := eq_true p158
                      replace q158 := eq_true q158
                      go_wp2
                      repeat (go_quiet (fail); try go_wp2)
                      go_roundg k2
                      case measure => have := HK1.out; have := HK2.out; omega
                      case rel => exact ⟨(x8_2), (wrap64 (x8_2 + 1)), zx13_2, zx13_2, H', ⟨by have := HK1.out; have := HK2.out; omega⟩, ⟨by (with_reducible repeat (first | apply Kd.R_alloc | apply Kd.R_drewN | apply Kd.R_drew)); exact HO_5.out⟩, ⟨by repeat (first | (with_reducible first | exact HB.out | apply below_alloc | apply pw_below_drewN | apply below_drew1) | exact HB.out)⟩⟩
                    · rw [if_neg c9] at H
                      have c9b0 : decide (x7_2 < 0) = false := decide_eq_false c9
                      clear c9
                      by_cases c10 : 0 ≤ x7_2
                      · rw [if_pos c10] at H
                        have c10b0 : decide (0 ≤ x7_2) = true := decide_eq_true c10
                        clear c10
                        by_cases c11 : x7_2 < (l0.length : Int)
                        · rw [if_pos c11] at H
                          have c11b0 : decide (x7_2 < (l0.length : Int)) = true := decide_eq_true c11
                          clear c11
                          by_cases c12 : (Op.bytesLess (((rd_T52 l0 x8_2).f0).toList) (((rd_T52 l0 x7_2).f0).toList)) = true
                          · rw [if_pos c12] at H
                            have c12b0 : (Op.bytesLess (((rd_T52 l0 x8_2).f0).toList) (((rd_T52 l0 x7_2).f0).toList)) = true := c12
                            clear c12
                            have H' := Aside0.mk H
                            clear H
                            have p158 : 0 ≤ (x8_2 : Int) := of_decide_eq_true zx13_1
                            have q158 : x8_2 < (l0.length : Int) := of_decide_eq_true zx13_1
                            obtain ⟨ad158, e158, hx158_0, hx158_1⟩ := at_T52 HR0.out x8_2 p158 q158
                            cases e158
                            replace hx158_0 := (HB.out.cell (World.block_lt_of_cell? w _ hx158_0)).trans hx158_0
                            replace hx158_1 := (HB.out.cell (World.block_lt_of_cell? w _ hx158_1)).trans hx158_1
                            replace p158 := eq_true p158
                            replace q158 := eq_true q158
                            have p159 : 0 ≤ (x8_2 : Int) := of_decide_eq_true zx13_1
                            have q159 : x8_2 < (l0.length : Int) := of_decide_eq_true zx13_1
                            obtain ⟨ad159, e159, hx159_0, hx159_1⟩ := at_T52 HR0.out x8_2 p159 q159
                            obtain rfl : ad158 = ad159 := (by injection e159)
                            replace hx159_0 := (HB.out.cell (World.block_lt_of_cell? w _ hx159_0)).trans hx159_0
                            replace hx159_1 := (HB.out.cell (World.block_lt_of_cell? w _ hx159_1)).trans hx159_1
                            replace p159 := eq_true p159
                            replace q159 := eq_true q159
                            have p160 : 0 ≤ (x7_2 : Int) := of_decide_eq_true zx13_1
                            have q160 : x7_2 < (l0.length : Int) := of_decide_eq_true zx13_1
                            obtain ⟨ad160, e160, hx160_0, hx160_1⟩ := at_T52 HR0.out x7_2 p160 q160
                            obtain rfl : ad158 = ad160 := (by injection e160)
                            replace hx160_0 := (HB.out.cell (World.block_lt_of_cell? w _ hx160_0)).trans hx160_0
                            replace hx160_1 := (HB.out.cell (World.block_lt_of_cell? w _ hx160_1)).trans hx160_1
                            replace p160 := eq_true p160
                            replace q160 := eq_true q160
                            go_wp2
                            repeat (go_quiet (fail); try go_wp2)
                            go_roundg k2
                            case measure => have := HK1.out; have := HK2.out; omega
                            case rel => exact ⟨(x8_2), (wrap64 (x8_2 + 1)), zx13_2, zx13_2, H', ⟨by have := HK1.out; have := HK2.out; omega⟩, ⟨by (with_reducible repeat (first | apply Kd.R_alloc | apply Kd.R_drewN | apply Kd.R_drew)); exact HO_5.out⟩, ⟨by repeat (first | (with_reducible first | exact HB.out | apply below_alloc | apply pw_below_drewN | apply below_drew1) | exact HB.out)⟩⟩
                          · rw [if_neg c12] at H
                            have c12b0 : (Op.bytesLess (((rd_T52 l0 x8_2).f0).toList) (((rd_T52 l0 x7_2).f0).toList)) = false := by simpa using c12
                            clear c12
                            have H' := Aside0.mk H
                            clear H
                            have p158 : 0 ≤ (x8_2 : Int) := of_decide_eq_true zx13_1
                            have q158 : x8_2 < (l0.length : Int) := of_decide_eq_true zx13_1
                            obtain ⟨ad158, e158, hx158_0, hx158_1⟩ := at_T52 HR0.out x8_2 p158 q158
                            cases e158
                            replace hx158_0 := (HB.out.cell (World.block_lt_of_cell? w _ hx158_0)).trans hx158_0
                            replace hx158_1 := (HB.out.cell (World.block_lt_of_cell? w _ hx158_1)).trans hx158_1
                            replace p158 := eq_true p158
                            replace q158 := eq_true q158
                            have p159 : 0 ≤ (x8_2 : Int) := of_decide_eq_true zx13_1
                            have q159 : x8_2 < (l0.length : Int) := of_decide_eq_true zx13_1
                            obtain ⟨ad159, e159, hx159_0, hx159_1⟩ := at_T52 HR0.out x8_2 p159 q159
                            obtain rfl : ad158 = ad159 := (by injection e159)
                            replace hx159_0 := (HB.out.cell (World.block_lt_of_cell? w _ hx159_0)).trans hx159_0
                            replace hx159_1 := (HB.out.cell (World.block_lt_of_cell? w _ hx159_1)).trans hx159_1
                            replace p159 := eq_true p159
                            replace q159 := eq_true q159
                            have p160 : 0 ≤ (x7_2 : Int) := of_decide_eq_true zx13_1
                            have q160 : x7_2 < (l0.length : Int) := of_decide_eq_true zx13_1
                            obtain ⟨ad160, e160, hx160_0, hx160_1⟩ := at_T52 HR0.out x7_2 p160 q160
                            obtain rfl : ad158 = ad160 := (by injection e160)
                            replace hx160_0 := (HB.out.cell (World.block_lt_of_cell? w _ hx160_0)).trans hx160_0
                            replace hx160_1 := (HB.out.cell (World.block_lt_of_cell? w _ hx160_1)).trans hx160_1
                            replace p160 := eq_true p160
                            replace q160 := eq_true q160
                            go_wp2
                            repeat (go_quiet (fail); try go_wp2)
                            go_roundg k2
                            case measure => have := HK1.out; have := HK2.out; omega
                            case rel => exact ⟨(x7_2), (wrap64 (x8_2 + 1)), zx13_2, zx13_2, H', ⟨by have := HK1.out; have := HK2.out; omega⟩, ⟨by (with_reducible repeat (first | apply Kd.R_alloc | apply Kd.R_drewN | apply Kd.R_drew)); exact HO_5.out⟩, ⟨by repeat (first | (with_reducible first | exact HB.out | apply below_alloc | apply pw_below_drewN | apply below_drew1) | exact HB.out)⟩⟩
                        · rw [if_neg c11] at H
                          exact absurd H (by simp)
                      · rw [if_neg c10] at H
                        exact absurd H (by simp)
                  · rw [if_neg c8] at H
                    have c8b0 : (Op.bytesLess x6_1.toList (((rd_T52 l0 x8_2).f0).toList)) = false := by simpa using c8
                    clear c8
                    have H' := Aside0.mk H
                    clear H
                    have p158 : 0 ≤ (x8_2 : Int) := of_decide_eq_true zx13_1
                    have q158 : x8_2 < (l0.length : Int) := of_decide_eq_true zx13_1
                    obtain ⟨ad158, e158, hx158_0, hx158_1⟩ := at_T52 HR0.out x8_2 p158 q158
                    cases e158
                    replace hx158_0 := (HB.out.cell (World.block_lt_of_cell? w _ hx158_0)).trans hx158_0
                    replace hx158_1 := (HB.out.cell (World.block_lt_of_cell? w _ hx158_1)).trans hx158_1
                    replace p158 := eq_true p158
                    replace q158 := eq_true q158
                    go_wp2
                    repeat (go_quiet (fail); try go_wp2)
                    go_roundg k2
                    case measure => have := HK1.out; have := HK2.out; omega
                    case rel => exact ⟨(x7_2), (wrap64 (x8_2 + 1)), zx13_2, zx13_2, H', ⟨by have := HK1.out; have := HK2.out; omega⟩, ⟨by (with_reducible repeat (first | apply Kd.R_alloc | apply Kd.R_drewN | apply Kd.R_drew)); exact HO_5.out⟩, ⟨by repeat (first | (with_reducible first | exact HB.out | apply below_alloc | apply pw_below_drewN | apply below_drew1) | exact HB.out)⟩⟩
                · rw [if_neg c7] at H
                  exact absurd H (by simp)
              · rw [if_neg c6] at H
                have c6b0 : decide (x8_2 < (l0.length : Int)) = false := decide_eq_false c6
                clear c6
                by_cases c13 : 0 ≤ x7_2
                · rw [if_pos c13] at H
                  have c13b0 : decide (0 ≤ x7_2) = true := decide_eq_true c13
                  clear c13
                  by_cases c14 : x7_2 < (l0.length : Int)
                  · rw [if_pos c14] at H
                    have c14b0 : decide (x7_2 < (l0.length : Int)) = true := decide_eq_true c14
                    clear c14
                    by_cases c15 : x5_1.length < 4398046511104
                    · rw [if_pos c15] at H
                      have LMc15 := Aside0.mk c15
                      clear c15
                      obtain ⟨y162, hy162⟩ : ∃ y_ : List (S52), y_ = (x5_1 ++ [(⟨(rd_T52 l0 x7_2).f0, (rd_T52 l0 x7_2).f1⟩ : S52)]) := ⟨_, rfl⟩
                      replace H : (postroomref3_Canon.l0 k2 l0 y162 ((rd_T52 l0 x7_2).f0)) = some (r1, r2) := by first | (rw [hy162]; with_reducible exact H) | (have H2_ := (Option.bind_some _ _).symm.trans H; rw [hy162]; with_reducible exact H2_) | (have H2_ := (Option.bind_some _ _).symm.trans H; with_reducible exact H2_) | with_reducible exact H | (rw [hy162]; exact H) | exact H
                      have Ny162 := Aside0.mk hy162
                      clear hy162
                      have H' := Aside0.mk H
                      clear H
                      have p161 : 0 ≤ (x7_2 : Int) := of_decide_eq_true zx13_1
                      have q161 : x7_2 < (l0.length : Int) := of_decide_eq_true zx13_1
                      obtain ⟨ad161, e161, hx161_0, hx161_1⟩ := at_T52 HR0.out x7_2 p161 q161
                      cases e161
                      replace hx161_0 := (HB.out.cell (World.block_lt_of_cell? w _ hx161_0)).trans hx161_0
                      replace hx161_1 := (HB.out.cell (World.block_lt_of_cell? w _ hx161_1)).trans hx161_1
                      replace p161 := eq_true p161
                      replace q161 := eq_true q161
                      go_wp2_with (first | ((with_reducible refine gate_builtin (b := .append) (xs := #[.tmp 50, .tmp 55]) rfl ?_); at_builtin; refine Kd.R_append k52 (w0 := w) w.heap.size rfl (.tmp 50) (.tmp 55) 22 52 (.agg #[(.string ⟨#[]⟩), (.string ⟨#[]⟩)]) 32 rfl Tryz.underlying22 info52 rfl (by decide) (by omega) (.slice Ao5 x5_1.length co5) x5_1 (⟨(rd_T52 l0 x7_2).f0, (rd_T52 l0 x7_2).f1⟩ : S52) [.string ((rd_T52 l0 x7_2).f0), .string ((rd_T52 l0 x7_2).f1)] (fun _ => True) (fun _ => False) rfl rfl ?aP (fun _ hk => hk.elim) ?aF ?aO ?aB ?aS ?aL ?_; (case aP => exact k52_mkM _ _ _ (⟨(rd_T52 l0 x7_2).f0, (rd_T52 l0 x7_2).f1⟩ : S52)); (case aB => exact zx13_0); (case aF => exact (fun _ _ => trivial)); (case aO => exact (by (with_reducible repeat (first | apply Kd.R_alloc | apply Kd.R_drewN | apply Kd.R_drew)); exact HO_5.out)); (case aS => exact (below_size zx13_0)); (case aL => have := LMc15.out; omega); intro v163 w16 ho hb hg hat; rw [← Ny162.out] at ho; have n0_ := Aside0.mk (hb); have n1_ := Aside0.mk (ho); clear HB; clear HO_5; have HB := n0_; have HO164 := n1_; clear n0_ n1_; clear ho hb hg hat; have p165 : 0 ≤ (x7_2 : Int) := of_decide_eq_true zx13_1; have q165 : x7_2 < (l0.length : Int) := of_decide_eq_true zx13_1; obtain ⟨ad165, e165, hx165_0, hx165_1⟩ := at_T52 HR0.out x7_2 p165 q165; obtain rfl : ad161 = ad165 := (by injection e165); replace hx165_0 := (HB.out.cell (World.block_lt_of_cell? w _ hx165_0)).trans hx165_0; replace hx165_1 := (HB.out.cell (World.block_lt_of_cell? w _ hx165_1)).trans hx165_1; replace p165 := eq_true p165; replace q165 := eq_true q165))
                      repeat (go_quiet (first | ((with_reducible refine gate_builtin (b := .append) (xs := #[.tmp 50, .tmp 55]) rfl ?_); at_builtin; refine Kd.R_append k52 (w0 := w) w.heap.size rfl (.tmp 50) (.tmp 55) 22 52 (.agg #[(.string ⟨#[]⟩), (.string ⟨#[]⟩)]) 32 rfl Tryz.underlying22 info52 rfl (by decide) (by omega) (.slice Ao5 x5_1.length co5) x5_1 (⟨(rd_T52 l0 x7_2).f0, (rd_T52 l0 x7_2).f1⟩ : S52) [.string ((rd_T52 l0 x7_2).f0), .string ((rd_T52 l0 x7_2).f1)] (fun _ => True) (fun _ => False) rfl rfl ?aP (fun _ hk => hk.elim) ?aF ?aO ?aB ?aS ?aL ?_; (case aP => exact k52_mkM _ _ _ (⟨(rd_T52 l0 x7_2).f0, (rd_T52 l0 x7_2).f1⟩ : S52)); (case aB => exact zx13_0); (case aF => exact (fun _ _ => trivial)); (case aO => exact (by (with_reducible repeat (first | apply Kd.R_alloc | apply Kd.R_drewN | apply Kd.R_drew)); exact HO_5.out)); (case aS => exact (below_size zx13_0)); (case aL => have := LMc15.out; omega); intro v163 w16 ho hb hg hat; rw [← Ny162.out] at ho; have n0_ := Aside0.mk (hb); have n1_ := Aside0.mk (ho); clear HB; clear HO_5; have HB := n0_; have HO164 := n1_; clear n0_ n1_; clear ho hb hg hat; have p165 : 0 ≤ (x7_2 : Int) := of_decide_eq_true zx13_1; have q165 : x7_2 < (l0.length : Int) := of_decide_eq_true zx13_1; obtain ⟨ad165, e165, hx165_0, hx165_1⟩ := at_T52 HR0.out x7_2 p165 q165; obtain rfl : ad161 = ad165 := (by injection e165); replace hx165_0 := (HB.out.cell (World.block_lt_of_cell? w _ hx165_0)).trans hx165_0; replace hx165_1 := (HB.out.cell (World.block_lt_of_cell? w _ hx165_1)).trans hx165_1; replace p165 := eq_true p165; replace q165 := eq_true q165)); try go_wp2_with (first | ((with_reducible refine gate_builtin (b := .append) (xs := #[.tmp 50, .tmp 55]) rfl ?_); at_builtin; refine Kd.R_append k52 (w0 := w) w.heap.size rfl (.tmp 50) (.tmp 55) 22 52 (.agg #[(.string ⟨#[]⟩), (.string ⟨#[]⟩)]) 32 rfl Tryz.underlying22 info52 rfl (by decide) (by omega) (.slice Ao5 x5_1.length co5) x5_1 (⟨(rd_T52 l0 x7_2).f0, (rd_T52 l0 x7_2).f1⟩ : S52) [.string ((rd_T52 l0 x7_2).f0), .string ((rd_T52 l0 x7_2).f1)] (fun _ => True) (fun _ => False) rfl rfl ?aP (fun _ hk => hk.elim) ?aF ?aO ?aB ?aS ?aL ?_; (case aP => exact k52_mkM _ _ _ (⟨(rd_T52 l0 x7_2).f0, (rd_T52 l0 x7_2).f1⟩ : S52)); (case aB => exact zx13_0); (case aF => exact (fun _ _ => trivial)); (case aO => exact (by (with_reducible repeat (first | apply Kd.R_alloc | apply Kd.R_drewN | apply Kd.R_drew)); exact HO_5.out)); (case aS => exact (below_size zx13_0)); (case aL => have := LMc15.out; omega); intro v163 w16 ho hb hg hat; rw [← Ny162.out] at ho; have n0_ := Aside0.mk (hb); have n1_ := Aside0.mk (ho); clear HB; clear HO_5; have HB := n0_; have HO164 := n1_; clear n0_ n1_; clear ho hb hg hat; have p165 : 0 ≤ (x7_2 : Int) := of_decide_eq_true zx13_1; have q165 : x7_2 < (l0.length : Int) := of_decide_eq_true zx13_1; obtain ⟨ad165, e165, hx165_0, hx165_1⟩ := at_T52 HR0.out x7_2 p165 q165; obtain rfl : ad161 = ad165 := (by injection e165); replace hx165_0 := (HB.out.cell (World.block_lt_of_cell? w _ hx165_0)).trans hx165_0; replace hx165_1 := (HB.out.cell (World.block_lt_of_cell? w _ hx165_1)).trans hx165_1; replace p165 := eq_true p165; replace q165 := eq_true q165)))
                      go_roundg k2
                      case measure => have := HK1.out; have := HK2.out; omega
                      case rel => exact ⟨(y162), ((rd_T52 l0 x7_2).f0), zx13_2, H', ⟨by have := HK1.out; have := HK2.out; omega⟩, ⟨by (with_reducible repeat (first | apply Kd.R_alloc | apply Kd.R_drewN | apply Kd.R_drew)); exact HO164.out⟩, ⟨by repeat (first | (with_reducible first | exact HB.out | apply below_alloc | apply pw_below_drewN | apply below_drew1) | exact HB.out)⟩⟩
                    · rw [if_neg c15] at H
                      exact absurd H (by simp)
                  · rw [if_neg c14] at H
                    exact absurd H (by simp)
                · rw [if_neg c13] at H
                  exact absurd H (by simp)
        · rw [if_neg c4] at H
          have c4b0 : decide ((x5_1.length : Int) < (l0.length : Int)) = false := decide_eq_false c4
          have c4b1 : decide (x5_1.length < l0.length) = false := decide_eq_false (fun h => c4 (Int.ofNat_lt.mpr h))
          clear c4
          simp only [Option.some.injEq, Prod.mk.injEq] at H
          obtain ⟨rfl, rfl⟩ := H
          obtain ⟨Ao17, co17, eo17⟩ := Kd.R_slice HO_5.out
          subst eo17
          go_wp2
          repeat (go_quiet (fail); try go_wp2)
          go_ret2
          exact ⟨_, by first | rfl | (simp [errW_none, errW_some] <;> rfl) | (simp [*, errW_none, errW_some] <;> rfl), by (with_reducible repeat (first | apply Kd.R_alloc | apply Kd.R_drewN | apply Kd.R_drew)); exact HO_5.out, by repeat (first | (with_reducible first | exact HB.out | apply below_alloc | apply pw_below_drewN | apply below_drew1) | exact HB.out)⟩
  · rw [if_neg c3] at H
    have c3b0 : (t157 == 0) = false := beq_eq_false_iff_ne.mpr c3
    have c3b1 : (t157 != 0) = true := bne_iff_ne.mpr c3
    simp only [Option.some.injEq, Prod.mk.injEq] at H
    obtain ⟨rfl, rfl⟩ := H
    go_enter Tryz.func29, Tryz.ntmps29
    go_wp2_with (first | (go_at_call 34; (with_reducible refine (postroomref3_Check.calls k _ _ l0 t157 _ ?side1 ?side2 A2.out).mono ?_); (case side1 => repeat (first | exact HR0.out | (with_reducible refine Kd.C_alloc ?_ _) | (with_reducible refine Kd.C_drewN ?_ _) | (with_reducible refine Kd.C_drew ?_))); (case side2 => exact HC0.out); rintro e w' ⟨rfl, ⟨nd, rfl⟩⟩; (try first | exact ⟨rfl, _, World.drewN_drewN _ _ _⟩ | exact ⟨rfl, _, Eq.trans (World.drewN_drewN _ _ _) (congrArg (World.drewN _) (Nat.add_assoc _ _ _))⟩)))
    repeat (go_quiet (first | (go_at_call 34; (with_reducible refine (postroomref3_Check.calls k _ _ l0 t157 _ ?side1 ?side2 A2.out).mono ?_); (case side1 => repeat (first | exact HR0.out | (with_reducible refine Kd.C_alloc ?_ _) | (with_reducible refine Kd.C_drewN ?_ _) | (with_reducible refine Kd.C_drew ?_))); (case side2 => exact HC0.out); rintro e w' ⟨rfl, ⟨nd, rfl⟩⟩; (try first | exact ⟨rfl, _, World.drewN_drewN _ _ _⟩ | exact ⟨rfl, _, Eq.trans (World.drewN_drewN _ _ _) (congrArg (World.drewN _) (Nat.add_assoc _ _ _))⟩))); try go_wp2_with (first | (go_at_call 34; (with_reducible refine (postroomref3_Check.calls k _ _ l0 t157 _ ?side1 ?side2 A2.out).mono ?_); (case side1 => repeat (first | exact HR0.out | (with_reducible refine Kd.C_alloc ?_ _) | (with_reducible refine Kd.C_drewN ?_ _) | (with_reducible refine Kd.C_drew ?_))); (case side2 => exact HC0.out); rintro e w' ⟨rfl, ⟨nd, rfl⟩⟩; (try first | exact ⟨rfl, _, World.drewN_drewN _ _ _⟩ | exact ⟨rfl, _, Eq.trans (World.drewN_drewN _ _ _) (congrArg (World.drewN _) (Nat.add_assoc _ _ _))⟩))))
    go_ret2
    exact ⟨_, by first | rfl | (simp [errW_none, errW_some] <;> rfl) | (simp [*, errW_none, errW_some] <;> rfl), by first | exact Kd.R_nil _ _ _ _ _ | exact Kd.N_nil _ _ _ _ _ | exact Kd.V_nil _ _ _ _ _ | exact Kd.Q_nil _ _ _ _ _ | exact Kd.S_nil _ _ _ _ _, by repeat (first | (with_reducible first | exact HB.out | apply below_alloc | apply pw_below_drewN | apply below_drew1) | exact HB.out)⟩

/-! ### postroomref1_Put: function 30 -/
def postroomref1_Put.l0 : Nat → Int → List Int → Option (ByteArray)
  | 0, _, _ => none
  | k + 1, x0, x3 => if (IntKind.u64.wrap (Int.tdiv x0 128)) = 0 then (if x3.length < 140737488355328 then (some (strOfNums (x3 ++ [(Int.tmod x0 128) % 256]))) else (none)) else (if x3.length < 140737488355328 then (postroomref1_Put.l0 k (IntKind.u64.wrap (Int.tdiv x0 128)) (x3 ++ [(128 + (Int.tmod x0 128)) % 256])) else (none))
def postroomref1_Put.f (k : Nat) (a0 : Int) : Option (ByteArray) := postroomref1_Put.l0 k a0 ([] : List Int)
theorem postroomref1_Put.mono_l : ∀ k, (∀ y0 y1, LeO (postroomref1_Put.l0 k y0 y1) (postroomref1_Put.l0 (k + 1) y0 y1))
  | 0 => fun _ _ r h => by simp [postroomref1_Put.l0] at h
  | k + 1 => by
    have ih0 := postroomref1_Put.mono_l k
    · intro y0 y1
      unfold postroomref1_Put.l0
      repeat' first
      | (with_reducible exact ih0 _ _)
      | (with_reducible exact LeO.refl _)
      | (with_reducible exact LeO.none _)
      | (with_reducible refine LeO.ite ?_ ?_)
      | (with_reducible refine LeO.bind ?_ (fun _ => ?_))
      | exact ih0 _ _
      | exact LeO.none _
      | refine LeO.ite ?_ ?_
      | refine LeO.bind ?_ (fun _ => ?_)
theorem postroomref1_Put.mono : ∀ a0 k, LeO (postroomref1_Put.f k a0) (postroomref1_Put.f (k + 1) a0) := by
  intro a0 k
  have ih0 := postroomref1_Put.mono_l k
  unfold postroomref1_Put.f
  repeat' first
      | (with_reducible exact ih0 _ _)
      | (with_reducible exact LeO.refl _)
      | (with_reducible exact LeO.none _)
      | (with_reducible refine LeO.ite ?_ ?_)
      | (with_reducible refine LeO.bind ?_ (fun _ => ?_))
      | exact ih0 _ _
      | exact LeO.none _
      | refine LeO.ite ?_ ?_
      | refine LeO.bind ?_ (fun _ => ?_)
end Go.Proofs.YthaegbiblblccaaGreatDoor.XEnt
end
section
/- What the functions of the translation answer, each as a plain Lean function, and that the code comes to it; for a law: its row. Conditions: none but those that each theorem names. Written by a program of this session (wip/xp). -/
namespace Go.Proofs.YthaegbiblblccaaGreatDoor.XEnt
open Go.RowKit Go.Proofs.YthaegbiblblccaaGreatDoorW.PrintWords Go.Proofs.YthaegbiblblccaaGreatDoorW.PrintLast Go.Proofs.YthaegbiblblccaaGreatDoorW.PrintMore
attribute [local go_sem] max2_int min2_int max_two min_two max_three min_three max_four min_four   -- for this text's walks alone
set_option linter.unusedVariables false
set_option linter.unusedSimpArgs false

/-! ### postroomref1_PutText: function 31 -/
def postroomref1_PutText.f (k : Nat) (a0 : ByteArray) : Option (ByteArray) := (postroomref1_Put.f k (IntKind.u64.wrap ((a0.size : Int)))).bind fun t172 => (if t172.size + a0.size ≤ 9223372036854775807 then (some (t172 ++ a0)) else (none))
theorem postroomref1_PutText.mono : ∀ a0 k, LeO (postroomref1_PutText.f k a0) (postroomref1_PutText.f (k + 1) a0) := by
  intro a0 k
  unfold postroomref1_PutText.f
  repeat' first
      | (with_reducible exact postroomref1_Put.mono _ _)
      | (with_reducible exact LeO.refl _)
      | (with_reducible exact LeO.none _)
      | (with_reducible refine LeO.ite ?_ ?_)
      | (with_reducible refine LeO.bind ?_ (fun _ => ?_))
      | exact postroomref1_Put.mono _ _
      | exact LeO.none _
      | refine LeO.ite ?_ ?_
      | refine LeO.bind ?_ (fun _ => ?_)
/-! ### postroomref3_Put: function 13 -/
def postroomref3_Put.l0 : Nat → List (S52) → ByteArray → Int → Option (ByteArray × Int)
  | 0, _, _, _ => none
  | k + 1, x4, x6, x7 => if x7 < (x4.length : Int) then (if 0 ≤ x7 then ((postroomref1_PutText.f k ((rd_T52 x4 x7).f0)).bind fun t179 => (if x6.size + t179.size ≤ 9223372036854775807 then ((postroomref1_PutText.f k ((rd_T52 x4 x7).f1)).bind fun t181 => (if (x6 ++ t179).size + t181.size ≤ 9223372036854775807 then (postroomref3_Put.l0 k x4 ((x6 ++ t179) ++ t181) (wrap64 (x7 + 1))) else (none))) else (none))) else (none)) else (some (x6, 0))
def postroomref3_Put.f (k : Nat) (l0 : List (S52)) : Option (ByteArray × Int) := (postroomref3_Canon.f k l0).bind fun bt173 => (if bt173.2 = 0 then ((postroomref1_Put.f k (IntKind.u64.wrap ((bt173.1.length : Int)))).bind fun t177 => (postroomref3_Put.l0 k bt173.1 t177 0)) else (some ((⟨#[]⟩ : ByteArray), bt173.2)))
theorem postroomref3_Put.mono_l : ∀ k, (∀ y0 y1 y2, LeO (postroomref3_Put.l0 k y0 y1 y2) (postroomref3_Put.l0 (k + 1) y0 y1 y2))
  | 0 => fun _ _ _ r h => by simp [postroomref3_Put.l0] at h
  | k + 1 => by
    have ih0 := postroomref3_Put.mono_l k
    · intro y0 y1 y2
      unfold postroomref3_Put.l0
      repeat' first
      | (with_reducible exact ih0 _ _ _)
      | (with_reducible exact postroomref1_Put.mono _ _)
      | (with_reducible exact postroomref1_PutText.mono _ _)
      | (with_reducible exact postroomref3_Canon.mono _ _)
      | (with_reducible exact LeO.refl _)
      | (with_reducible exact LeO.none _)
      | (with_reducible refine LeO.ite ?_ ?_)
      | (with_reducible refine LeO.bind ?_ (fun _ => ?_))
      | exact ih0 _ _ _
      | exact postroomref1_Put.mono _ _
      | exact postroomref1_PutText.mono _ _
      | exact postroomref3_Canon.mono _ _
      | exact LeO.none _
      | refine LeO.ite ?_ ?_
      | refine LeO.bind ?_ (fun _ => ?_)
theorem postroomref3_Put.mono : ∀ a0 k, LeO (postroomref3_Put.f k a0) (postroomref3_Put.f (k + 1) a0) := by
  intro a0 k
  have ih0 := postroomref3_Put.mono_l k
  unfold postroomref3_Put.f
  repeat' first
      | (with_reducible exact ih0 _ _ _)
      | (with_reducible exact postroomref1_Put.mono _ _)
      | (with_reducible exact postroomref1_PutText.mono _ _)
      | (with_reducible exact postroomref3_Canon.mono _ _)
      | (with_reducible exact LeO.refl _)
      | (with_reducible exact LeO.none _)
      | (with_reducible refine LeO.ite ?_ ?_)
      | (with_reducible refine LeO.bind ?_ (fun _ => ?_))
      | exact ih0 _ _ _
      | exact postroomref1_Put.mono _ _
      | exact postroomref1_PutText.mono _ _
      | exact postroomref3_Canon.mono _ _
      | exact LeO.none _
      | refine LeO.ite ?_ ?_
      | refine LeO.bind ?_ (fun _ => ?_)
end Go.Proofs.YthaegbiblblccaaGreatDoor.XEnt
end
section
/- What the functions of the translation answer, each as a plain Lean function, and that the code comes to it; for a law: its row. Conditions: none but those that each theorem names. Written by a program of this session (wip/xp). -/
namespace Go.Proofs.YthaegbiblblccaaGreatDoor.XEnt
open Go.RowKit Go.Proofs.YthaegbiblblccaaGreatDoorW.PrintWords Go.Proofs.YthaegbiblblccaaGreatDoorW.PrintLast Go.Proofs.YthaegbiblblccaaGreatDoorW.PrintMore
attribute [local go_sem] max2_int min2_int max_two min_two max_three min_three max_four min_four   -- for this text's walks alone
set_option linter.unusedVariables false
set_option linter.unusedSimpArgs false

/-! ### postroomref4_Check: function 35 -/
mutual
def postroomref4_Check.j0 : Nat → List (S54) → Bool → Option (Int)
  | 0, _, _ => none
  | k + 1, x0, x11 => if x11 = true then (some 6) else (postroomref4_Check.l0 k x0 1)
def postroomref4_Check.l0 : Nat → List (S54) → Int → Option (Int)
  | 0, _, _ => none
  | k + 1, x0, x3 => if x3 < (x0.length : Int) then (if 0 ≤ x3 then (if 0 ≤ (wrap64 (x3 - 1)) then (if (wrap64 (x3 - 1)) < (x0.length : Int) then (if ((rd_T54 x0 x3).f0) ≤ ((rd_T54 x0 (wrap64 (x3 - 1))).f0) then (some 8) else (postroomref4_Check.l0 k x0 (wrap64 (x3 + 1)))) else (none)) else (none)) else (none)) else (some 0)
end
def postroomref4_Check.f (k : Nat) (l0 : List (S54)) : Option (Int) := if (l0.length : Int) < 1 then (postroomref4_Check.j0 k l0 true) else (postroomref4_Check.j0 k l0 (decide ((l0.length : Int) > 20)))
theorem postroomref4_Check.mono_l : ∀ k, (∀ y0 y1, LeO (postroomref4_Check.j0 k y0 y1) (postroomref4_Check.j0 (k + 1) y0 y1)) ∧ (∀ y0 y1, LeO (postroomref4_Check.l0 k y0 y1) (postroomref4_Check.l0 (k + 1) y0 y1))
  | 0 => ⟨fun _ _ r h => by simp [postroomref4_Check.j0] at h, fun _ _ r h => by simp [postroomref4_Check.l0] at h⟩
  | k + 1 => by
    obtain ⟨ih0, ih1⟩ := postroomref4_Check.mono_l k
    refine ⟨?_, ?_⟩
    · intro y0 y1
      unfold postroomref4_Check.j0
      repeat' first
      | (with_reducible exact ih0 _ _)
      | (with_reducible exact ih1 _ _)
      | (with_reducible exact LeO.refl _)
      | (with_reducible exact LeO.none _)
      | (with_reducible refine LeO.ite ?_ ?_)
      | (with_reducible refine LeO.bind ?_ (fun _ => ?_))
      | exact ih0 _ _
      | exact ih1 _ _
      | exact LeO.none _
      | refine LeO.ite ?_ ?_
      | refine LeO.bind ?_ (fun _ => ?_)
    · intro y0 y1
      unfold postroomref4_Check.l0
      repeat' first
      | (with_reducible exact ih0 _ _)
      | (with_reducible exact ih1 _ _)
      | (with_reducible exact LeO.refl _)
      | (with_reducible exact LeO.none _)
      | (with_reducible refine LeO.ite ?_ ?_)
      | (with_reducible refine LeO.bind ?_ (fun _ => ?_))
      | exact ih0 _ _
      | exact ih1 _ _
      | exact LeO.none _
      | refine LeO.ite ?_ ?_
      | refine LeO.bind ?_ (fun _ => ?_)
theorem postroomref4_Check.mono : ∀ a0 k, LeO (postroomref4_Check.f k a0) (postroomref4_Check.f (k + 1) a0) := by
  intro a0 k
  obtain ⟨ih0, ih1⟩ := postroomref4_Check.mono_l k
  unfold postroomref4_Check.f
  repeat' first
      | (with_reducible exact ih0 _ _)
      | (with_reducible exact ih1 _ _)
      | (with_reducible exact LeO.refl _)
      | (with_reducible exact LeO.none _)
      | (with_reducible refine LeO.ite ?_ ?_)
      | (with_reducible refine LeO.bind ?_ (fun _ => ?_))
      | exact ih0 _ _
      | exact ih1 _ _
      | exact LeO.none _
      | refine LeO.ite ?_ ?_
      | refine LeO.bind ?_ (fun _ => ?_)
/-! ### postroomref5_Check: function 15 -/
def postroomref5_Check.f (k : Nat) (l0_0 : List (S52)) (l0_1 : List (S54)) : Option (Int) := (postroomref3_Check.f k l0_0).bind fun t185 => (if t185 = 0 then ((postroomref4_Check.f k l0_1).bind fun t186 => (some t186)) else (some t185))
theorem postroomref5_Check.mono : ∀ a0 a1 k, LeO (postroomref5_Check.f k a0 a1) (postroomref5_Check.f (k + 1) a0 a1) := by
  intro a0 a1 k
  unfold postroomref5_Check.f
  repeat' first
      | (with_reducible exact postroomref3_Check.mono _ _)
      | (with_reducible exact postroomref4_Check.mono _ _)
      | (with_reducible exact LeO.refl _)
      | (with_reducible exact LeO.none _)
      | (with_reducible refine LeO.ite ?_ ?_)
      | (with_reducible refine LeO.bind ?_ (fun _ => ?_))
      | exact postroomref3_Check.mono _ _
      | exact postroomref4_Check.mono _ _
      | exact LeO.none _
      | refine LeO.ite ?_ ?_
      | refine LeO.bind ?_ (fun _ => ?_)
/-! ### postroomref1_PutInt: function 48 -/
def postroomref1_PutInt.f (k : Nat) (a0 : Int) : Option (ByteArray) := if a0 ≥ 0 then ((postroomref1_Put.f k (IntKind.u64.wrap (2 * (IntKind.u64.wrap (a0))))).bind fun t187 => (some t187)) else ((postroomref1_Put.f k (IntKind.u64.wrap ((IntKind.u64.wrap (2 * (IntKind.u64.wrap (wrap64 (-(wrap64 (a0 + 1))))))) + 1))).bind fun t188 => (some t188))
theorem postroomref1_PutInt.mono : ∀ a0 k, LeO (postroomref1_PutInt.f k a0) (postroomref1_PutInt.f (k + 1) a0) := by
  intro a0 k
  unfold postroomref1_PutInt.f
  repeat' first
      | (with_reducible exact postroomref1_Put.mono _ _)
      | (with_reducible exact LeO.refl _)
      | (with_reducible exact LeO.none _)
      | (with_reducible refine LeO.ite ?_ ?_)
      | (with_reducible refine LeO.bind ?_ (fun _ => ?_))
      | exact postroomref1_Put.mono _ _
      | exact LeO.none _
      | refine LeO.ite ?_ ?_
      | refine LeO.bind ?_ (fun _ => ?_)
/-! ### postroomref4_step: function 49 -/
end Go.Proofs.YthaegbiblblccaaGreatDoor.XEnt
end
section
/- What the functions of the translation answer, each as a plain Lean function, and that the code comes to it; for a law: its row. Conditions: none but those that each theorem names. Written by a program of this session (wip/xp). -/
namespace Go.Proofs.YthaegbiblblccaaGreatDoor.XEnt
open Go.RowKit Go.Proofs.YthaegbiblblccaaGreatDoorW.PrintWords Go.Proofs.YthaegbiblblccaaGreatDoorW.PrintLast Go.Proofs.YthaegbiblblccaaGreatDoorW.PrintMore
attribute [local go_sem] max2_int min2_int max_two min_two max_three min_three max_four min_four   -- for this text's walks alone
set_option linter.unusedVariables false
set_option linter.unusedSimpArgs false

/-! ### postroomref1_Take: function 54 -/
mutual
def postroomref1_Take.j1 : Nat → ByteArray → Int → Option (Int × ByteArray × Int)
  | 0, _, _ => none
  | k + 1, x0, x5 => if x5 ≥ (x0.size : Int) then (postroomref1_Take.j2 k x0 x5 true) else (postroomref1_Take.j2 k x0 x5 (decide (x5 ≥ 10)))
def postroomref1_Take.j2 : Nat → ByteArray → Int → Bool → Option (Int × ByteArray × Int)
  | 0, _, _, _ => none
  | k + 1, x0, x5, x31 => if x31 = true then (some (0, (⟨#[]⟩ : ByteArray), 2)) else (postroomref1_Take.l1 k x0 x5 0 x5)
def postroomref1_Take.l1 : Nat → ByteArray → Int → Int → Int → Option (Int × ByteArray × Int)
  | 0, _, _, _, _ => none
  | k + 1, x0, x5, x6, x7 => if x7 ≥ 0 then (if 0 ≤ x7 then (if x7 < (x0.size : Int) then (postroomref1_Take.l1 k x0 x5 (IntKind.u64.wrap ((IntKind.u64.wrap (128 * x6)) + (IntKind.u64.wrap (Int.tmod (bt x0 x7) 128)))) (wrap64 (x7 - 1))) else (none)) else (none)) else ((postroomref1_Put.f k x6).bind fun t197 => (if 0 ≤ (wrap64 (x5 + 1)) then (if (wrap64 (x5 + 1)) ≤ (x0.size : Int) then (if t197.toList = (x0.extract 0 ((wrap64 (x5 + 1)) : Int).toNat).toList then (some (x6, x0.extract ((wrap64 (x5 + 1)) : Int).toNat x0.size, 0)) else (some (0, (⟨#[]⟩ : ByteArray), 2))) else (none)) else (none)))
def postroomref1_Take.l0 : Nat → ByteArray → Int → Option (Int × ByteArray × Int)
  | 0, _, _ => none
  | k + 1, x0, x5 => if x5 < (x0.size : Int) then (if x5 < 10 then (if 0 ≤ x5 then (if (bt x0 x5) ≥ 128 then (postroomref1_Take.l0 k x0 (wrap64 (x5 + 1))) else (postroomref1_Take.j1 k x0 x5)) else (none)) else (postroomref1_Take.j1 k x0 x5)) else (postroomref1_Take.j1 k x0 x5)
end
def postroomref1_Take.f (k : Nat) (a0 : ByteArray) : Option (Int × ByteArray × Int) := postroomref1_Take.l0 k a0 0
theorem postroomref1_Take.mono_l : ∀ k, (∀ y0 y1, LeO (postroomref1_Take.j1 k y0 y1) (postroomref1_Take.j1 (k + 1) y0 y1)) ∧ (∀ y0 y1 y2, LeO (postroomref1_Take.j2 k y0 y1 y2) (postroomref1_Take.j2 (k + 1) y0 y1 y2)) ∧ (∀ y0 y1 y2 y3, LeO (postroomref1_Take.l1 k y0 y1 y2 y3) (postroomref1_Take.l1 (k + 1) y0 y1 y2 y3)) ∧ (∀ y0 y1, LeO (postroomref1_Take.l0 k y0 y1) (postroomref1_Take.l0 (k + 1) y0 y1))
  | 0 => ⟨fun _ _ r h => by simp [postroomref1_Take.j1] at h, fun _ _ _ r h => by simp [postroomref1_Take.j2] at h, fun _ _ _ _ r h => by simp [postroomref1_Take.l1] at h, fun _ _ r h => by simp [postroomref1_Take.l0] at h⟩
  | k + 1 => by
    obtain ⟨ih0, ih1, ih2, ih3⟩ := postroomref1_Take.mono_l k
    refine ⟨?_, ?_, ?_, ?_⟩
    · intro y0 y1
      unfold postroomref1_Take.j1
      repeat' first
      | (with_reducible exact ih0 _ _)
      | (with_reducible exact ih1 _ _ _)
      | (with_reducible exact ih2 _ _ _ _)
      | (with_reducible exact ih3 _ _)
      | (with_reducible exact postroomref1_Put.mono _ _)
      | (with_reducible exact LeO.refl _)
      | (with_reducible exact LeO.none _)
      | (with_reducible refine LeO.ite ?_ ?_)
      | (with_reducible refine LeO.bind ?_ (fun _ => ?_))
      | exact ih0 _ _
      | exact ih1 _ _ _
      | exact ih2 _ _ _ _
      | exact ih3 _ _
      | exact postroomref1_Put.mono _ _
      | exact LeO.none _
      | refine LeO.ite ?_ ?_
      | refine LeO.bind ?_ (fun _ => ?_)
    · intro y0 y1 y2
      unfold postroomref1_Take.j2
      repeat' first
      | (with_reducible exact ih0 _ _)
      | (with_reducible exact ih1 _ _ _)
      | (with_reducible exact ih2 _ _ _ _)
      | (with_reducible exact ih3 _ _)
      | (with_reducible exact postroomref1_Put.mono _ _)
      | (with_reducible exact LeO.refl _)
      | (with_reducible exact LeO.none _)
      | (with_reducible refine LeO.ite ?_ ?_)
      | (with_reducible refine LeO.bind ?_ (fun _ => ?_))
      | exact ih0 _ _
      | exact ih1 _ _ _
      | exact ih2 _ _ _ _
      | exact ih3 _ _
      | exact postroomref1_Put.mono _ _
      | exact LeO.none _
      | refine LeO.ite ?_ ?_
      | refine LeO.bind ?_ (fun _ => ?_)
    · intro y0 y1 y2 y3
      unfold postroomref1_Take.l1
      repeat' first
      | (with_reducible exact ih0 _ _)
      | (with_reducible exact ih1 _ _ _)
      | (with_reducible exact ih2 _ _ _ _)
      | (with_reducible exact ih3 _ _)
      | (with_reducible exact postroomref1_Put.mono _ _)
      | (with_reducible exact LeO.refl _)
      | (with_reducible exact LeO.none _)
      | (with_reducible refine LeO.ite ?_ ?_)
      | (with_reducible refine LeO.bind ?_ (fun _ => ?_))
      | exact ih0 _ _
      | exact ih1 _ _ _
      | exact ih2 _ _ _ _
      | exact ih3 _ _
      | exact postroomref1_Put.mono _ _
      | exact LeO.none _
      | refine LeO.ite ?_ ?_
      | refine LeO.bind ?_ (fun _ => ?_)
    · intro y0 y1
      unfold postroomref1_Take.l0
      repeat' first
      | (with_reducible exact ih0 _ _)
      | (with_reducible exact ih1 _ _ _)
      | (with_reducible exact ih2 _ _ _ _)
      | (with_reducible exact ih3 _ _)
      | (with_reducible exact postroomref1_Put.mono _ _)
      | (with_reducible exact LeO.refl _)
      | (with_reducible exact LeO.none _)
      | (with_reducible refine LeO.ite ?_ ?_)
      | (with_reducible refine LeO.bind ?_ (fun _ => ?_))
      | exact ih0 _ _
      | exact ih1 _ _ _
      | exact ih2 _ _ _ _
      | exact ih3 _ _
      | exact postroomref1_Put.mono _ _
      | exact LeO.none _
      | refine LeO.ite ?_ ?_
      | refine LeO.bind ?_ (fun _ => ?_)
theorem postroomref1_Take.mono : ∀ a0 k, LeO (postroomref1_Take.f k a0) (postroomref1_Take.f (k + 1) a0) := by
  intro a0 k
  obtain ⟨ih0, ih1, ih2, ih3⟩ := postroomref1_Take.mono_l k
  unfold postroomref1_Take.f
  repeat' first
      | (with_reducible exact ih0 _ _)
      | (with_reducible exact ih1 _ _ _)
      | (with_reducible exact ih2 _ _ _ _)
      | (with_reducible exact ih3 _ _)
      | (with_reducible exact postroomref1_Put.mono _ _)
      | (with_reducible exact LeO.refl _)
      | (with_reducible exact LeO.none _)
      | (with_reducible refine LeO.ite ?_ ?_)
      | (with_reducible refine LeO.bind ?_ (fun _ => ?_))
      | exact ih0 _ _
      | exact ih1 _ _ _
      | exact ih2 _ _ _ _
      | exact ih3 _ _
      | exact postroomref1_Put.mono _ _
      | exact LeO.none _
      | refine LeO.ite ?_ ?_
      | refine LeO.bind ?_ (fun _ => ?_)
end Go.Proofs.YthaegbiblblccaaGreatDoor.XEnt
end
section
/- What the functions of the translation answer, each as a plain Lean function, and that the code comes to it; for a law: its row. Conditions: none but those that each theorem names. Written by a program of this session (wip/xp). -/
namespace Go.Proofs.YthaegbiblblccaaGreatDoor.XEnt
open Go.RowKit Go.Proofs.YthaegbiblblccaaGreatDoorW.PrintWords Go.Proofs.YthaegbiblblccaaGreatDoorW.PrintLast Go.Proofs.YthaegbiblblccaaGreatDoorW.PrintMore
attribute [local go_sem] max2_int min2_int max_two min_two max_three min_three max_four min_four   -- for this text's walks alone
set_option linter.unusedVariables false
set_option linter.unusedSimpArgs false

/-! ### postroomref1_TakeText: function 55 -/
def postroomref1_TakeText.f (k : Nat) (a0 : ByteArray) (a1 : Int) : Option (ByteArray × ByteArray × Int) := (postroomref1_Take.f k a0).bind fun bt198 => (if bt198.2.2 = 0 then (if bt198.1 > (IntKind.u64.wrap (mx a1 0)) then (some ((⟨#[]⟩ : ByteArray), (⟨#[]⟩ : ByteArray), 7)) else (if bt198.1 > (IntKind.u64.wrap ((bt198.2.1.size : Int))) then (some ((⟨#[]⟩ : ByteArray), (⟨#[]⟩ : ByteArray), 2)) else (if 0 ≤ bt198.1 then (if bt198.1 ≤ (bt198.2.1.size : Int) then (some (bt198.2.1.extract 0 (bt198.1 : Int).toNat, bt198.2.1.extract (bt198.1 : Int).toNat bt198.2.1.size, 0)) else (none)) else (none)))) else (some ((⟨#[]⟩ : ByteArray), (⟨#[]⟩ : ByteArray), bt198.2.2)))
theorem postroomref1_TakeText.mono : ∀ a0 a1 k, LeO (postroomref1_TakeText.f k a0 a1) (postroomref1_TakeText.f (k + 1) a0 a1) := by
  intro a0 a1 k
  unfold postroomref1_TakeText.f
  repeat' first
      | (with_reducible exact postroomref1_Take.mono _ _)
      | (with_reducible exact LeO.refl _)
      | (with_reducible exact LeO.none _)
      | (with_reducible refine LeO.ite ?_ ?_)
      | (with_reducible refine LeO.bind ?_ (fun _ => ?_))
      | exact postroomref1_Take.mono _ _
      | exact LeO.none _
      | refine LeO.ite ?_ ?_
      | refine LeO.bind ?_ (fun _ => ?_)
/-! ### postroomref3_Take: function 27 -/
mutual
def postroomref3_Take.j0 : Nat → ByteArray → Int → ByteArray → Bool → Option ((List (S52)) × ByteArray × Int)
  | 0, _, _, _, _ => none
  | k + 1, x0, x5, x6, x29 => if x29 = true then (some (([] : List (S52)), (⟨#[]⟩ : ByteArray), 2)) else (postroomref3_Take.l0 k x0 x5 x6 ([] : List (S52)) 0)
def postroomref3_Take.l0 : Nat → ByteArray → Int → ByteArray → List (S52) → Int → Option ((List (S52)) × ByteArray × Int)
  | 0, _, _, _, _, _ => none
  | k + 1, x0, x5, x6, x8, x9 => if x9 < x5 then ((postroomref1_TakeText.f k x6 20).bind fun bt206 => ((postroomref1_TakeText.f k bt206.2.1 40).bind fun bt209 => (if bt206.2.2 = 0 then (if bt209.2.2 = 0 then (if x8.length < 4398046511104 then (postroomref3_Take.l0 k x0 x5 bt209.2.1 (x8 ++ [(⟨bt206.1, bt209.1⟩ : S52)]) (IntKind.u64.wrap (x9 + 1))) else (none)) else (some (([] : List (S52)), (⟨#[]⟩ : ByteArray), 2))) else (some (([] : List (S52)), (⟨#[]⟩ : ByteArray), 2))))) else ((postroomref3_Put.f k x8).bind fun bt204 => (if bt204.2 = 0 then (if bt204.1.size + x6.size ≤ 9223372036854775807 then (if (bt204.1 ++ x6).toList = x0.toList then (some (x8, x6, 0)) else (some (([] : List (S52)), (⟨#[]⟩ : ByteArray), 2))) else (none)) else (some (([] : List (S52)), (⟨#[]⟩ : ByteArray), 2))))
end
def postroomref3_Take.f (k : Nat) (a0 : ByteArray) : Option ((List (S52)) × ByteArray × Int) := (postroomref1_Take.f k a0).bind fun bt201 => (if bt201.2.2 = 0 then (postroomref3_Take.j0 k a0 bt201.1 bt201.2.1 (decide (bt201.1 > 8))) else (postroomref3_Take.j0 k a0 bt201.1 bt201.2.1 true))
theorem postroomref3_Take.mono_l : ∀ k, (∀ y0 y1 y2 y3, LeO (postroomref3_Take.j0 k y0 y1 y2 y3) (postroomref3_Take.j0 (k + 1) y0 y1 y2 y3)) ∧ (∀ y0 y1 y2 y3 y4, LeO (postroomref3_Take.l0 k y0 y1 y2 y3 y4) (postroomref3_Take.l0 (k + 1) y0 y1 y2 y3 y4))
  | 0 => ⟨fun _ _ _ _ r h => by simp [postroomref3_Take.j0] at h, fun _ _ _ _ _ r h => by simp [postroomref3_Take.l0] at h⟩
  | k + 1 => by
    obtain ⟨ih0, ih1⟩ := postroomref3_Take.mono_l k
    refine ⟨?_, ?_⟩
    · intro y0 y1 y2 y3
      unfold postroomref3_Take.j0
      repeat' first
      | (with_reducible exact ih0 _ _ _ _)
      | (with_reducible exact ih1 _ _ _ _ _)
      | (with_reducible exact postroomref1_Take.mono _ _)
      | (with_reducible exact postroomref1_TakeText.mono _ _ _)
      | (with_reducible exact postroomref3_Put.mono _ _)
      | (with_reducible exact LeO.refl _)
      | (with_reducible exact LeO.none _)
      | (with_reducible refine LeO.ite ?_ ?_)
      | (with_reducible refine LeO.bind ?_ (fun _ => ?_))
      | exact ih0 _ _ _ _
      | exact ih1 _ _ _ _ _
      | exact postroomref1_Take.mono _ _
      | exact postroomref1_TakeText.mono _ _ _
      | exact postroomref3_Put.mono _ _
      | exact LeO.none _
      | refine LeO.ite ?_ ?_
      | refine LeO.bind ?_ (fun _ => ?_)
    · intro y0 y1 y2 y3 y4
      unfold postroomref3_Take.l0
      repeat' first
      | (with_reducible exact ih0 _ _ _ _)
      | (with_reducible exact ih1 _ _ _ _ _)
      | (with_reducible exact postroomref1_Take.mono _ _)
      | (with_reducible exact postroomref1_TakeText.mono _ _ _)
      | (with_reducible exact postroomref3_Put.mono _ _)
      | (with_reducible exact LeO.refl _)
      | (with_reducible exact LeO.none _)
      | (with_reducible refine LeO.ite ?_ ?_)
      | (with_reducible refine LeO.bind ?_ (fun _ => ?_))
      | exact ih0 _ _ _ _
      | exact ih1 _ _ _ _ _
      | exact postroomref1_Take.mono _ _
      | exact postroomref1_TakeText.mono _ _ _
      | exact postroomref3_Put.mono _ _
      | exact LeO.none _
      | refine LeO.ite ?_ ?_
      | refine LeO.bind ?_ (fun _ => ?_)
theorem postroomref3_Take.mono : ∀ a0 k, LeO (postroomref3_Take.f k a0) (postroomref3_Take.f (k + 1) a0) := by
  intro a0 k
  obtain ⟨ih0, ih1⟩ := postroomref3_Take.mono_l k
  unfold postroomref3_Take.f
  repeat' first
      | (with_reducible exact ih0 _ _ _ _)
      | (with_reducible exact ih1 _ _ _ _ _)
      | (with_reducible exact postroomref1_Take.mono _ _)
      | (with_reducible exact postroomref1_TakeText.mono _ _ _)
      | (with_reducible exact postroomref3_Put.mono _ _)
      | (with_reducible exact LeO.refl _)
      | (with_reducible exact LeO.none _)
      | (with_reducible refine LeO.ite ?_ ?_)
      | (with_reducible refine LeO.bind ?_ (fun _ => ?_))
      | exact ih0 _ _ _ _
      | exact ih1 _ _ _ _ _
      | exact postroomref1_Take.mono _ _
      | exact postroomref1_TakeText.mono _ _ _
      | exact postroomref3_Put.mono _ _
      | exact LeO.none _
      | refine LeO.ite ?_ ?_
      | refine LeO.bind ?_ (fun _ => ?_)
/-! ### postroomref1_TakeInt: function 56 -/
def postroomref1_TakeInt.f (k : Nat) (a0 : ByteArray) : Option (Int × ByteArray × Int) := (postroomref1_Take.f k a0).bind fun bt215 => (if bt215.2.2 = 0 then (if (Int.tmod bt215.1 2) = 0 then (some (wrap64 (IntKind.u64.wrap (Int.tdiv bt215.1 2)), bt215.2.1, 0)) else (some (wrap64 ((wrap64 (-(wrap64 (IntKind.u64.wrap (Int.tdiv bt215.1 2))))) - 1), bt215.2.1, 0))) else (some (0, (⟨#[]⟩ : ByteArray), bt215.2.2)))
theorem postroomref1_TakeInt.mono : ∀ a0 k, LeO (postroomref1_TakeInt.f k a0) (postroomref1_TakeInt.f (k + 1) a0) := by
  intro a0 k
  unfold postroomref1_TakeInt.f
  repeat' first
      | (with_reducible exact postroomref1_Take.mono _ _)
      | (with_reducible exact LeO.refl _)
      | (with_reducible exact LeO.none _)
      | (with_reducible refine LeO.ite ?_ ?_)
      | (with_reducible refine LeO.bind ?_ (fun _ => ?_))
      | exact postroomref1_Take.mono _ _
      | exact LeO.none _
      | refine LeO.ite ?_ ?_
      | refine LeO.bind ?_ (fun _ => ?_)
end Go.Proofs.YthaegbiblblccaaGreatDoor.XEnt
end
section
/- What the functions of the translation answer, each as a plain Lean function, and that the code comes to it; for a law: its row. Conditions: none but those that each theorem names. Written by a program of this session (wip/xp). -/
namespace Go.Proofs.YthaegbiblblccaaGreatDoor.XEnt
open Go.RowKit Go.Proofs.YthaegbiblblccaaGreatDoorW.PrintWords Go.Proofs.YthaegbiblblccaaGreatDoorW.PrintLast Go.Proofs.YthaegbiblblccaaGreatDoorW.PrintMore
attribute [local go_sem] max2_int min2_int max_two min_two max_three min_three max_four min_four   -- for this text's walks alone
set_option linter.unusedVariables false
set_option linter.unusedSimpArgs false

/-! ### postroomref4_Take: function 28 -/
mutual
def postroomref4_Take.j0 : Nat → Int → ByteArray → Bool → Option ((List (S54)) × ByteArray × Int)
  | 0, _, _, _ => none
  | k + 1, x5, x6, x39 => if x39 = true then (some (([] : List (S54)), (⟨#[]⟩ : ByteArray), 2)) else ((postroomref1_Take.f k x6).bind fun bt221 => ((postroomref1_TakeInt.f k bt221.2.1).bind fun bt224 => (if bt221.2.2 = 0 then (postroomref4_Take.j1 k x5 bt221.1 bt224.1 bt224.2.1 (bt224.2.2 != 0)) else (postroomref4_Take.j1 k x5 bt221.1 bt224.1 bt224.2.1 true))))
def postroomref4_Take.j1 : Nat → Int → Int → Int → ByteArray → Bool → Option ((List (S54)) × ByteArray × Int)
  | 0, _, _, _, _, _ => none
  | k + 1, x5, x8, x11, x12, x57 => if x57 = true then (some (([] : List (S54)), (⟨#[]⟩ : ByteArray), 2)) else (postroomref4_Take.l0 k x5 x12 x8 x11 (([(⟨x8, x11⟩ : S54)] : List (S54))) 0 1)
def postroomref4_Take.l0 : Nat → Int → ByteArray → Int → Int → List (S54) → Int → Int → Option ((List (S54)) × ByteArray × Int)
  | 0, _, _, _, _, _, _, _ => none
  | k + 1, x5, x6, x8, x11, x14, x15, x16 => if x16 < x5 then ((postroomref1_TakeInt.f k x6).bind fun bt231 => ((postroomref1_TakeInt.f k bt231.2.1).bind fun bt234 => (if bt231.2.2 = 0 then (if bt234.2.2 = 0 then (if x14.length < 8796093022208 then (postroomref4_Take.l0 k x5 bt234.2.1 (IntKind.u64.wrap (x8 + (IntKind.u64.wrap (x15 + (IntKind.u64.wrap (bt231.1)))))) (wrap64 (x11 + bt234.1)) (x14 ++ [(⟨IntKind.u64.wrap (x8 + (IntKind.u64.wrap (x15 + (IntKind.u64.wrap (bt231.1))))), wrap64 (x11 + bt234.1)⟩ : S54)]) (IntKind.u64.wrap (x15 + (IntKind.u64.wrap (bt231.1)))) (IntKind.u64.wrap (x16 + 1))) else (none)) else (some (([] : List (S54)), (⟨#[]⟩ : ByteArray), 2))) else (some (([] : List (S54)), (⟨#[]⟩ : ByteArray), 2))))) else ((postroomref4_Check.f k x14).bind fun t230 => (if t230 = 0 then (some (x14, x6, 0)) else (some (([] : List (S54)), (⟨#[]⟩ : ByteArray), 2))))
end
def postroomref4_Take.f (k : Nat) (a0 : ByteArray) : Option ((List (S54)) × ByteArray × Int) := (postroomref1_Take.f k a0).bind fun bt218 => (if bt218.2.2 = 0 then (if bt218.1 < 1 then (postroomref4_Take.j0 k bt218.1 bt218.2.1 true) else (postroomref4_Take.j0 k bt218.1 bt218.2.1 (decide (bt218.1 > 20)))) else (postroomref4_Take.j0 k bt218.1 bt218.2.1 true))
theorem postroomref4_Take.mono_l : ∀ k, (∀ y0 y1 y2, LeO (postroomref4_Take.j0 k y0 y1 y2) (postroomref4_Take.j0 (k + 1) y0 y1 y2)) ∧ (∀ y0 y1 y2 y3 y4, LeO (postroomref4_Take.j1 k y0 y1 y2 y3 y4) (postroomref4_Take.j1 (k + 1) y0 y1 y2 y3 y4)) ∧ (∀ y0 y1 y2 y3 y4 y5 y6, LeO (postroomref4_Take.l0 k y0 y1 y2 y3 y4 y5 y6) (postroomref4_Take.l0 (k + 1) y0 y1 y2 y3 y4 y5 y6))
  | 0 => ⟨fun _ _ _ r h => by simp [postroomref4_Take.j0] at h, fun _ _ _ _ _ r h => by simp [postroomref4_Take.j1] at h, fun _ _ _ _ _ _ _ r h => by simp [postroomref4_Take.l0] at h⟩
  | k + 1 => by
    obtain ⟨ih0, ih1, ih2⟩ := postroomref4_Take.mono_l k
    refine ⟨?_, ?_, ?_⟩
    · intro y0 y1 y2
      unfold postroomref4_Take.j0
      repeat' first
      | (with_reducible exact ih0 _ _ _)
      | (with_reducible exact ih1 _ _ _ _ _)
      | (with_reducible exact ih2 _ _ _ _ _ _ _)
      | (with_reducible exact postroomref1_Take.mono _ _)
      | (with_reducible exact postroomref1_TakeInt.mono _ _)
      | (with_reducible exact postroomref4_Check.mono _ _)
      | (with_reducible exact LeO.refl _)
      | (with_reducible exact LeO.none _)
      | (with_reducible refine LeO.ite ?_ ?_)
      | (with_reducible refine LeO.bind ?_ (fun _ => ?_))
      | exact ih0 _ _ _
      | exact ih1 _ _ _ _ _
      | exact ih2 _ _ _ _ _ _ _
      | exact postroomref1_Take.mono _ _
      | exact postroomref1_TakeInt.mono _ _
      | exact postroomref4_Check.mono _ _
      | exact LeO.none _
      | refine LeO.ite ?_ ?_
      | refine LeO.bind ?_ (fun _ => ?_)
    · intro y0 y1 y2 y3 y4
      unfold postroomref4_Take.j1
      repeat' first
      | (with_reducible exact ih0 _ _ _)
      | (with_reducible exact ih1 _ _ _ _ _)
      | (with_reducible exact ih2 _ _ _ _ _ _ _)
      | (with_reducible exact postroomref1_Take.mono _ _)
      | (with_reducible exact postroomref1_TakeInt.mono _ _)
      | (with_reducible exact postroomref4_Check.mono _ _)
      | (with_reducible exact LeO.refl _)
      | (with_reducible exact LeO.none _)
      | (with_reducible refine LeO.ite ?_ ?_)
      | (with_reducible refine LeO.bind ?_ (fun _ => ?_))
      | exact ih0 _ _ _
      | exact ih1 _ _ _ _ _
      | exact ih2 _ _ _ _ _ _ _
      | exact postroomref1_Take.mono _ _
      | exact postroomref1_TakeInt.mono _ _
      | exact postroomref4_Check.mono _ _
      | exact LeO.none _
      | refine LeO.ite ?_ ?_
      | refine LeO.bind ?_ (fun _ => ?_)
    · intro y0 y1 y2 y3 y4 y5 y6
      unfold postroomref4_Take.l0
      repeat' first
      | (with_reducible exact ih0 _ _ _)
      | (with_reducible exact ih1 _ _ _ _ _)
      | (with_reducible exact ih2 _ _ _ _ _ _ _)
      | (with_reducible exact postroomref1_Take.mono _ _)
      | (with_reducible exact postroomref1_TakeInt.mono _ _)
      | (with_reducible exact postroomref4_Check.mono _ _)
      | (with_reducible exact LeO.refl _)
      | (with_reducible exact LeO.none _)
      | (with_reducible refine LeO.ite ?_ ?_)
      | (with_reducible refine LeO.bind ?_ (fun _ => ?_))
      | exact ih0 _ _ _
      | exact ih1 _ _ _ _ _
      | exact ih2 _ _ _ _ _ _ _
      | exact postroomref1_Take.mono _ _
      | exact postroomref1_TakeInt.mono _ _
      | exact postroomref4_Check.mono _ _
      | exact LeO.none _
      | refine LeO.ite ?_ ?_
      | refine LeO.bind ?_ (fun _ => ?_)
theorem postroomref4_Take.mono : ∀ a0 k, LeO (postroomref4_Take.f k a0) (postroomref4_Take.f (k + 1) a0) := by
  intro a0 k
  obtain ⟨ih0, ih1, ih2⟩ := postroomref4_Take.mono_l k
  unfold postroomref4_Take.f
  repeat' first
      | (with_reducible exact ih0 _ _ _)
      | (with_reducible exact ih1 _ _ _ _ _)
      | (with_reducible exact ih2 _ _ _ _ _ _ _)
      | (with_reducible exact postroomref1_Take.mono _ _)
      | (with_reducible exact postroomref1_TakeInt.mono _ _)
      | (with_reducible exact postroomref4_Check.mono _ _)
      | (with_reducible exact LeO.refl _)
      | (with_reducible exact LeO.none _)
      | (with_reducible refine LeO.ite ?_ ?_)
      | (with_reducible refine LeO.bind ?_ (fun _ => ?_))
      | exact ih0 _ _ _
      | exact ih1 _ _ _ _ _
      | exact ih2 _ _ _ _ _ _ _
      | exact postroomref1_Take.mono _ _
      | exact postroomref1_TakeInt.mono _ _
      | exact postroomref4_Check.mono _ _
      | exact LeO.none _
      | refine LeO.ite ?_ ?_
      | refine LeO.bind ?_ (fun _ => ?_)
end Go.Proofs.YthaegbiblblccaaGreatDoor.XEnt
end
section
/- What the functions of the translation answer, each as a plain Lean function, and that the code comes to it; for a law: its row. Conditions: none but those that each theorem names. Written by a program of this session (wip/xp). -/
namespace Go.Proofs.YthaegbiblblccaaGreatDoor.XEnt
open Go.RowKit Go.Proofs.YthaegbiblblccaaGreatDoorW.PrintWords Go.Proofs.YthaegbiblblccaaGreatDoorW.PrintLast Go.Proofs.YthaegbiblblccaaGreatDoorW.PrintMore
attribute [local go_sem] max2_int min2_int max_two min_two max_three min_three max_four min_four   -- for this text's walks alone
theorem zx27_0 {p : Prop} (h : p := by first | rfl | (simp; done) | (simp [*]; done)) : p := h
theorem zx27_2 {p : Prop} (h : p := by first | (with_reducible assumption) | assumption) : p := h
theorem zx27_1 {p : Prop} (h : p := by repeat (first | (with_reducible first | exact HB.out | apply below_alloc | apply pw_below_drewN | apply below_drew1) | exact HB.out)) : p := h
set_option linter.unusedVariables false
set_option linter.unusedSimpArgs false

/-! ### postroomlaw5_pick: function 65 -/
def postroomlaw5_pick.f (a0 : Int) (a1 : Int) : Option (Int) := if a0 < 0 then (if a1 = 0 then (none) else (some (Int.tmod (wrap64 (-(wrap64 (a0 + 1)))) a1))) else (if a1 = 0 then (none) else (some (Int.tmod a0 a1)))
set_option maxHeartbeats 8000000 in
set_option maxRecDepth 100000 in
theorem postroomlaw5_pick.calls (a0 : Int) (a1 : Int) (r : Int) (w : World) (h : postroomlaw5_pick.f a0 a1 = some r) :
    Calls Tryz.prog 65 #[.int .i64 a0, .int .i64 a1] w fun e w' => e = .returned (.int .i64 r) ∧ Drawn0 w w' := by
  have H : (if a0 < 0 then (if a1 = 0 then (none) else (some (Int.tmod (wrap64 (-(wrap64 (a0 + 1)))) a1))) else (if a1 = 0 then (none) else (some (Int.tmod a0 a1)))) = some r := h
  clear h
  by_cases c3 : a0 < 0
  · rw [if_pos c3] at H
    have c3b0 : decide (a0 < 0) = true := decide_eq_true c3
    clear c3
    by_cases c4 : a1 = 0
    · rw [if_pos c4] at H
      exact absurd H (by simp)
    · rw [if_neg c4] at H
      have c4b0 : (a1 == 0) = false := beq_eq_false_iff_ne.mpr c4
      have c4b1 : (a1 != 0) = true := bne_iff_ne.mpr c4
      obtain rfl := Option.some.inj H
      go_enter Tryz.func65, Tryz.ntmps65
      go_wp2
      go_ret
      exact ⟨by first | rfl | (simp; done) | (simp [*]; done), by repeat (first | exact Drawn0.refl _ | apply Drawn0.step)⟩
  · rw [if_neg c3] at H
    have c3b0 : decide (a0 < 0) = false := decide_eq_false c3
    clear c3
    by_cases c5 : a1 = 0
    · rw [if_pos c5] at H
      exact absurd H (by simp)
    · rw [if_neg c5] at H
      have c5b0 : (a1 == 0) = false := beq_eq_false_iff_ne.mpr c5
      have c5b1 : (a1 != 0) = true := bne_iff_ne.mpr c5
      obtain rfl := Option.some.inj H
      go_enter Tryz.func65, Tryz.ntmps65
      go_wp2
      go_ret
      exact ⟨by first | rfl | (simp; done) | (simp [*]; done), by repeat (first | exact Drawn0.refl _ | apply Drawn0.step)⟩

/-! ### postroomlaw5_labelsOf: function 40 -/
mutual
def postroomlaw5_labelsOf.l0 : Nat → List Int → List ByteArray → List (S52) → Int → Option ((List (S52)))
  | 0, _, _, _, _ => none
  | k + 1, x0, x3, x4, x5 => if x5 < (x0.length : Int) then (postroomlaw5_labelsOf.j1 k x0 x3 x4 x5 (decide (x5 < 8))) else (postroomlaw5_labelsOf.j1 k x0 x3 x4 x5 false)
def postroomlaw5_labelsOf.j1 : Nat → List Int → List ByteArray → List (S52) → Int → Bool → Option ((List (S52)))
  | 0, _, _, _, _, _ => none
  | k + 1, x0, x3, x4, x5, x18 => if x18 = true then (if 0 ≤ x5 then (if x5 < (x0.length : Int) then ((postroomlaw5_pick.f (rd x0 x5) 8).bind fun t353 => (if 0 ≤ t353 then (if t353 < (x3.length : Int) then (postroomlaw5_labelsOf.l1 k x0 x3 x4 x5 (rdOf ByteArray.empty x3 t353) false 0) else (none)) else (none))) else (none)) else (none)) else (some x4)
def postroomlaw5_labelsOf.l1 : Nat → List Int → List ByteArray → List (S52) → Int → ByteArray → Bool → Int → Option ((List (S52)))
  | 0, _, _, _, _, _, _, _ => none
  | k + 1, x0, x3, x4, x5, x6, x7, x8 => if x8 < (x4.length : Int) then (if x7 = true then (postroomlaw5_labelsOf.l1 k x0 x3 x4 x5 x6 true (wrap64 (x8 + 1))) else (if 0 ≤ x8 then (postroomlaw5_labelsOf.l1 k x0 x3 x4 x5 x6 (((rd_T52 x4 x8).f0).toList == x6.toList) (wrap64 (x8 + 1))) else (none))) else (if x7 = true then (postroomlaw5_labelsOf.l0 k x0 x3 x4 (wrap64 (x5 + 1))) else (if 0 ≤ x5 then (if x5 < (x0.length : Int) then ((postroomlaw5_pick.f (wrap64 (Int.tdiv (rd x0 x5) 8)) 5).bind fun t357 => (if 0 ≤ t357 then (if t357 ≤ 5 then (if 5 ≤ 5 then (if x4.length < 4398046511104 then (postroomlaw5_labelsOf.l0 k x0 x3 (x4 ++ [(⟨x6, (⟨#[118, 119, 120, 121, 122]⟩ : ByteArray).extract (t357 : Int).toNat 5⟩ : S52)]) (wrap64 (x5 + 1))) else (none)) else (none)) else (none)) else (none))) else (none)) else (none)))
end
def postroomlaw5_labelsOf.f (k : Nat) (l0 : List Int) : Option ((List (S52))) := postroomlaw5_labelsOf.l0 k l0 (([(⟨#[97]⟩ : ByteArray), (⟨#[98]⟩ : ByteArray), (⟨#[106, 111, 98]⟩ : ByteArray), (⟨#[122, 111, 110, 101]⟩ : ByteArray), (⟨#[95, 120]⟩ : ByteArray), (⟨#[99, 49]⟩ : ByteArray), (⟨#[104, 111, 115, 116]⟩ : ByteArray), (⟨#[110]⟩ : ByteArray)] : List ByteArray)) ([] : List (S52)) 0
theorem postroomlaw5_labelsOf.mono_l : ∀ k, (∀ y0 y1 y2 y3, LeO (postroomlaw5_labelsOf.l0 k y0 y1 y2 y3) (postroomlaw5_labelsOf.l0 (k + 1) y0 y1 y2 y3)) ∧ (∀ y0 y1 y2 y3 y4, LeO (postroomlaw5_labelsOf.j1 k y0 y1 y2 y3 y4) (postroomlaw5_labelsOf.j1 (k + 1) y0 y1 y2 y3 y4)) ∧ (∀ y0 y1 y2 y3 y4 y5 y6, LeO (postroomlaw5_labelsOf.l1 k y0 y1 y2 y3 y4 y5 y6) (postroomlaw5_labelsOf.l1 (k + 1) y0 y1 y2 y3 y4 y5 y6))
  | 0 => ⟨fun _ _ _ _ r h => by simp [postroomlaw5_labelsOf.l0] at h, fun _ _ _ _ _ r h => by simp [postroomlaw5_labelsOf.j1] at h, fun _ _ _ _ _ _ _ r h => by simp [postroomlaw5_labelsOf.l1] at h⟩
  | k + 1 => by
    obtain ⟨ih0, ih1, ih2⟩ := postroomlaw5_labelsOf.mono_l k
    refine ⟨?_, ?_, ?_⟩
    · intro y0 y1 y2 y3
      unfold postroomlaw5_labelsOf.l0
      repeat' first
      | (with_reducible exact ih0 _ _ _ _)
      | (with_reducible exact ih1 _ _ _ _ _)
      | (with_reducible exact ih2 _ _ _ _ _ _ _)
      | (with_reducible exact LeO.refl _)
      | (with_reducible exact LeO.none _)
      | (with_reducible refine LeO.ite ?_ ?_)
      | (with_reducible refine LeO.bind ?_ (fun _ => ?_))
      | exact ih0 _ _ _ _
      | exact ih1 _ _ _ _ _
      | exact ih2 _ _ _ _ _ _ _
      | exact LeO.none _
      | refine LeO.ite ?_ ?_
      | refine LeO.bind ?_ (fun _ => ?_)
    · intro y0 y1 y2 y3 y4
      unfold postroomlaw5_labelsOf.j1
      repeat' first
      | (with_reducible exact ih0 _ _ _ _)
      | (with_reducible exact ih1 _ _ _ _ _)
      | (with_reducible exact ih2 _ _ _ _ _ _ _)
      | (with_reducible exact LeO.refl _)
      | (with_reducible exact LeO.none _)
      | (with_reducible refine LeO.ite ?_ ?_)
      | (with_reducible refine LeO.bind ?_ (fun _ => ?_))
      | exact ih0 _ _ _ _
      | exact ih1 _ _ _ _ _
      | exact ih2 _ _ _ _ _ _ _
      | exact LeO.none _
      | refine LeO.ite ?_ ?_
      | refine LeO.bind ?_ (fun _ => ?_)
    · intro y0 y1 y2 y3 y4 y5 y6
      unfold postroomlaw5_labelsOf.l1
      repeat' first
      | (with_reducible exact ih0 _ _ _ _)
      | (with_reducible exact ih1 _ _ _ _ _)
      | (with_reducible exact ih2 _ _ _ _ _ _ _)
      | (with_reducible exact LeO.refl _)
      | (with_reducible exact LeO.none _)
      | (with_reducible refine LeO.ite ?_ ?_)
      | (with_reducible refine LeO.bind ?_ (fun _ => ?_))
      | exact ih0 _ _ _ _
      | exact ih1 _ _ _ _ _
      | exact ih2 _ _ _ _ _ _ _
      | exact LeO.none _
      | refine LeO.ite ?_ ?_
      | refine LeO.bind ?_ (fun _ => ?_)
theorem postroomlaw5_labelsOf.mono : ∀ a0 k, LeO (postroomlaw5_labelsOf.f k a0) (postroomlaw5_labelsOf.f (k + 1) a0) := by
  intro a0 k
  obtain ⟨ih0, ih1, ih2⟩ := postroomlaw5_labelsOf.mono_l k
  unfold postroomlaw5_labelsOf.f
  repeat' first
      | (with_reducible exact ih0 _ _ _ _)
      | (with_reducible exact ih1 _ _ _ _ _)
      | (with_reducible exact ih2 _ _ _ _ _ _ _)
      | (with_reducible exact LeO.refl _)
      | (with_reducible exact LeO.none _)
      | (with_reducible refine LeO.ite ?_ ?_)
      | (with_reducible refine LeO.bind ?_ (fun _ => ?_))
      | exact ih0 _ _ _ _
      | exact ih1 _ _ _ _ _
      | exact ih2 _ _ _ _ _ _ _
      | exact LeO.none _
      | refine LeO.ite ?_ ?_
      | refine LeO.bind ?_ (fun _ => ?_)
set_option maxHeartbeats 8000000 in
set_option maxRecDepth 100000 in
theorem postroomlaw5_labelsOf.calls (k : Nat) (A0 : Option Addr) (c0 : Nat) (l0 : List Int) (r : List (S52)) (w : World) (hr0 : Kd.C (Kd.int .i64) w A0 l0.length l0) (hc0 : l0.length ≤ c0) (h : postroomlaw5_labelsOf.f k l0 = some r) :
    Calls Tryz.prog 40 #[.slice A0 l0.length c0] w fun e w' => ∃ v0_ : Value, e = .returned (v0_) ∧ Kd.R k52 52 w' w.heap.size (fun _ => True) v0_ r ∧ Below w.heap.size w w' := by
  have hu52 := Tryz.underlying52
  have HR0 := Aside0.mk hr0
  have HC0 := Aside0.mk hc0
  clear hr0 hc0
  have HB := Aside0.mk (Below.refl w.heap.size w)
  have H : (postroomlaw5_labelsOf.l0 k l0 (([(⟨#[97]⟩ : ByteArray), (⟨#[98]⟩ : ByteArray), (⟨#[106, 111, 98]⟩ : ByteArray), (⟨#[122, 111, 110, 101]⟩ : ByteArray), (⟨#[95, 120]⟩ : ByteArray), (⟨#[99, 49]⟩ : ByteArray), (⟨#[104, 111, 115, 116]⟩ : ByteArray), (⟨#[110]⟩ : ByteArray)] : List ByteArray)) ([] : List (S52)) 0) = some r := h
  clear h
  obtain ⟨y349, hy349⟩ : ∃ y_ : List ByteArray, y_ = (([(⟨#[97]⟩ : ByteArray), (⟨#[98]⟩ : ByteArray), (⟨#[106, 111, 98]⟩ : ByteArray), (⟨#[122, 111, 110, 101]⟩ : ByteArray), (⟨#[95, 120]⟩ : ByteArray), (⟨#[99, 49]⟩ : ByteArray), (⟨#[104, 111, 115, 116]⟩ : ByteArray), (⟨#[110]⟩ : ByteArray)] : List ByteArray)) := ⟨_, rfl⟩
  replace H : (postroomlaw5_labelsOf.l0 k l0 y349 ([] : List (S52)) 0) = some r := by first | (rw [hy349]; with_reducible exact H) | (have H2_ := (Option.bind_some _ _).symm.trans H; rw [hy349]; with_reducible exact H2_) | (have H2_ := (Option.bind_some _ _).symm.trans H; with_reducible exact H2_) | with_reducible exact H | (rw [hy349]; exact H) | exact H
  have Ny349 := Aside0.mk hy349
  clear hy349
  have H' := Aside0.mk H
  clear H
  go_enter Tryz.func40, Tryz.ntmps40
  go_wp2_with (first | ((with_reducible refine gate_dst (N := 10) rfl ?_); refine Kd.R_lit Kd.string _ 9 ?hg (N := 10) ?hd (xs := ([(⟨#[97]⟩ : ByteArray), (⟨#[98]⟩ : ByteArray), (⟨#[106, 111, 98]⟩ : ByteArray), (⟨#[122, 111, 110, 101]⟩ : ByteArray), (⟨#[95, 120]⟩ : ByteArray), (⟨#[99, 49]⟩ : ByteArray), (⟨#[104, 111, 115, 116]⟩ : ByteArray), (⟨#[110]⟩ : ByteArray)] : List ByteArray)) (inner := [.string (⟨#[97]⟩ : ByteArray), .string (⟨#[98]⟩ : ByteArray), .string (⟨#[106, 111, 98]⟩ : ByteArray), .string (⟨#[122, 111, 110, 101]⟩ : ByteArray), .string (⟨#[95, 120]⟩ : ByteArray), .string (⟨#[99, 49]⟩ : ByteArray), .string (⟨#[104, 111, 115, 116]⟩ : ByteArray), .string (⟨#[110]⟩ : ByteArray)]) (ok := fun _ => True) (okp := fun _ => True) ?hr ?hp (fun _ hk => hk) trivial (Below.refl _ _) (Nat.le_refl _) (by simp) ?_; (case hd => rfl); (case hg => rfl); (case hr => first | (go_simp; done) | (go_simp; rfl)); (case hp => exact (Reps.one (show Kd.M Kd.string _ _ _ (⟨#[97]⟩ : ByteArray) [.string (⟨#[97]⟩ : ByteArray)] from rfl) (Reps.one (show Kd.M Kd.string _ _ _ (⟨#[98]⟩ : ByteArray) [.string (⟨#[98]⟩ : ByteArray)] from rfl) (Reps.one (show Kd.M Kd.string _ _ _ (⟨#[106, 111, 98]⟩ : ByteArray) [.string (⟨#[106, 111, 98]⟩ : ByteArray)] from rfl) (Reps.one (show Kd.M Kd.string _ _ _ (⟨#[122, 111, 110, 101]⟩ : ByteArray) [.string (⟨#[122, 111, 110, 101]⟩ : ByteArray)] from rfl) (Reps.one (show Kd.M Kd.string _ _ _ (⟨#[95, 120]⟩ : ByteArray) [.string (⟨#[95, 120]⟩ : ByteArray)] from rfl) (Reps.one (show Kd.M Kd.string _ _ _ (⟨#[99, 49]⟩ : ByteArray) [.string (⟨#[99, 49]⟩ : ByteArray)] from rfl) (Reps.one (show Kd.M Kd.string _ _ _ (⟨#[104, 111, 115, 116]⟩ : ByteArray) [.string (⟨#[104, 111, 115, 116]⟩ : ByteArray)] from rfl) (Reps.one (show Kd.M Kd.string _ _ _ (⟨#[110]⟩ : ByteArray) [.string (⟨#[110]⟩ : ByteArray)] from rfl) (Reps.none _ _)))))))))); intro v350 w2 ho3 hb hg_ hnew_; clear hg_ hnew_; (first | rw [← Ny349.out] at ho3 | (simp only [Int.reduceToNat] at ho3; rw [← Ny349.out] at ho3)); have n0_ := Aside0.mk (Kd.R_lower ho3 (below_size zx27_1)); have n1_ := Aside0.mk (below_step zx27_1 hb); clear HB; have HO351 := n0_; have HB := n1_; clear n0_ n1_; clear hb ho3))
  go_loopg [4, 5] k (fun kq v4 v5 w' => ∃ (x4_1 : List (S52)) (x5_1 : Int), v5 = .int .i64 x5_1 ∧ Aside0 (postroomlaw5_labelsOf.l0 kq l0 y349 x4_1 x5_1 = some r) ∧ Aside0 (kq ≤ k) ∧ Aside0 (Kd.R Kd.string 9 w' w.heap.size (fun _ => True) v350 y349) ∧ Aside0 (Kd.R k52 52 w' w.heap.size (fun _ => True) v4 x4_1) ∧ Aside0 (Below w.heap.size w w'))
  case atStart => exact ⟨(([] : List (S52))), (0), zx27_0, H', ⟨Nat.le_refl _⟩, ⟨by (with_reducible repeat (first | apply Kd.R_alloc | apply Kd.R_drewN | apply Kd.R_drew)); exact HO351.out⟩, ⟨by first | exact Kd.R_nil _ _ _ _ _ | exact Kd.N_nil _ _ _ _ _ | exact Kd.V_nil _ _ _ _ _ | exact Kd.Q_nil _ _ _ _ _ | exact Kd.S_nil _ _ _ _ _⟩, ⟨by repeat (first | (with_reducible first | exact HB.out | apply below_alloc | apply pw_below_drewN | apply below_drew1) | exact HB.out)⟩⟩
  case round =>
    clear H'
    try clear p2
    obtain ⟨x4_1, x5_1, rfl, HA, HK1, HO_3, HO_4, HB⟩ := hrel
    cases gk with
    | zero => exact absurd HA.out (by simp [postroomlaw5_labelsOf.l0])
    | succ k1 =>
      have H := HA.out
      clear HA
      simp only [postroomlaw5_labelsOf.l0] at H
      have HC4 := Aside0.mk H
      clear H
      go_upto_region 4 with (fail)
      go_cut [18] (fun v18 wc => ∃ (kq : Nat) (x18_3 : Bool), v18 = .bool x18_3 ∧ Aside0 (postroomlaw5_labelsOf.j1 kq l0 y349 x4_1 x5_1 x18_3 = some r) ∧ Aside0 (kq ≤ k1) ∧ Aside0 (Kd.R Kd.string 9 wc w.heap.size (fun _ => True) v350 y349) ∧ Aside0 (Kd.R k52 52 wc w.heap.size (fun _ => True) u4 x4_1) ∧ Aside0 (Below w.heap.size w wc))
      case first =>
        have H := HC4.out
        clear HC4
        by_cases c5 : x5_1 < (l0.length : Int)
        · rw [if_pos c5] at H
          have c5b0 : decide (x5_1 < (l0.length : Int)) = true := decide_eq_true c5
          clear c5
          (first | rw [c5b0] | (simp only [i64_w, i32_w]; rw [c5b0]) | skip)
          have H' := Aside0.mk H
          clear H
          go_wp2
          go_meet
          case rel => exact ⟨_, (decide (x5_1 < 8)), zx27_0, H', ⟨by have := HK1.out; first | omega | exact Nat.le_refl _⟩, ⟨by (with_reducible repeat (first | apply Kd.R_alloc | apply Kd.R_drewN | apply Kd.R_drew)); exact HO_3.out⟩, ⟨by (with_reducible repeat (first | apply Kd.R_alloc | apply Kd.R_drewN | apply Kd.R_drew)); exact HO_4.out⟩, ⟨by repeat (first | (with_reducible first | exact HB.out | apply below_alloc | apply pw_below_drewN | apply below_drew1) | exact HB.out)⟩⟩
        · rw [if_neg c5] at H
          have c5b0 : decide (x5_1 < (l0.length : Int)) = false := decide_eq_false c5
          clear c5
          (first | rw [c5b0] | (simp only [i64_w, i32_w]; rw [c5b0]) | skip)
          have H' := Aside0.mk H
          clear H
          go_wp2
          go_meet
          case rel => exact ⟨_, (false), zx27_0, H', ⟨by have := HK1.out; first | omega | exact Nat.le_refl _⟩, ⟨by (with_reducible repeat (first | apply Kd.R_alloc | apply Kd.R_drewN | apply Kd.R_drew)); exact HO_3.out⟩, ⟨by (with_reducible repeat (first | apply Kd.R_alloc | apply Kd.R_drewN | apply Kd.R_drew)); exact HO_4.out⟩, ⟨by repeat (first | (with_reducible first | exact HB.out | apply below_alloc | apply pw_below_drewN | apply below_drew1) | exact HB.out)⟩⟩
      case rest =>
        clear HC4
        try clear p2
        try clear c4
        try clear c5
        try clear c5b0
        try clear p2
        obtain ⟨kq, x18_3, rfl, HA, HJ3, HO_3, HO_4, HB⟩ := hcut
        cases kq with
        | zero => exact absurd HA.out (by simp [postroomlaw5_labelsOf.j1])
        | succ kj3 =>
          have H := HA.out
          clear HA
          simp only [postroomlaw5_labelsOf.j1] at H
          by_cases c6 : x18_3 = true
          · subst c6
            have H1 : (if 0 ≤ x5_1 then (if x5_1 < (l0.length : Int) then ((postroomlaw5_pick.f (rd l0 x5_1) 8).bind fun t353 => (if 0 ≤ t353 then (if t353 < (y349.length : Int) then (postroomlaw5_labelsOf.l1 kj3 l0 y349 x4_1 x5_1 (rdOf ByteArray.empty y349 t353) false 0) else (none)) else (none))) else (none)) else (none)) = some r := by rw [if_pos rfl] at H; exact H
            clear H
            have H := H1
            clear H1
            by_cases c7 : 0 ≤ x5_1
            · rw [if_pos c7] at H
              have c7b0 : decide (0 ≤ x5_1) = true := decide_eq_true c7
              clear c7
              by_cases c8 : x5_1 < (l0.length : Int)
              · rw [if_pos c8] at H
                have c8b0 : decide (x5_1 < (l0.length : Int)) = true := decide_eq_true c8
                clear c8
                replace H := Option.bind_eq_some_iff.mp H
                obtain ⟨t353, A90, H⟩ := H
                replace H : (if 0 ≤ t353 then (if t353 < (y349.length : Int) then (postroomlaw5_labelsOf.l1 kj3 l0 y349 x4_1 x5_1 (rdOf ByteArray.empty y349 t353) false 0) else (none)) else (none)) = some r := H
                have A9 := Aside0.mk A90
                clear A90
                by_cases c10 : 0 ≤ t353
                · rw [if_pos c10] at H
                  have c10b0 : decide (0 ≤ t353) = true := decide_eq_true c10
                  clear c10
                  by_cases c11 : t353 < (y349.length : Int)
                  · rw [if_pos c11] at H
                    have c11b0 : decide (t353 < (y349.length : Int)) = true := decide_eq_true c11
                    clear c11
                    have H' := Aside0.mk H
                    clear H
                    have p352 : 0 ≤ (x5_1 : Int) := of_decide_eq_true zx27_2
                    have q352 : x5_1 < (l0.length : Int) := of_decide_eq_true zx27_2
                    obtain ⟨ad352, e352, hx352_0⟩ := Kd.at_int HR0.out x5_1 p352 q352
                    cases e352
                    replace hx352_0 := (HB.out.cell (World.block_lt_of_cell? w _ hx352_0)).trans hx352_0
                    replace p352 := eq_true p352
                    replace q352 := eq_true q352
                    go_wp2_with (first | ((with_reducible refine gate_callee (f := 65) rfl ?_); refine goesL_ (some 26) rfl rfl Tryz.func65 (by kernel_rfl) rfl #[.int .i64 (rd l0 x5_1), .int .i64 8] rfl (by (try simp only [List.map_toArray, List.map_cons, List.map_nil]); first | done | rfl | (simp only [List.length_drop, List.length_take]; rfl)) ?_; (with_reducible refine (postroomlaw5_pick.calls (rd l0 x5_1) 8 t353 _ A9.out).mono ?_); rintro e w' ⟨rfl, ⟨nd, rfl⟩⟩; refine ⟨_, rfl, ?_⟩; obtain ⟨Ao12, co12, eo12⟩ := Kd.R_slice HO_3.out; subst eo12; have p354 : 0 ≤ (t353 : Int) := of_decide_eq_true zx27_2; have q354 : t353 < (y349.length : Int) := of_decide_eq_true zx27_2; obtain ⟨ad354, e354, hx354_0⟩ := Kd.at_string (Kd.R_reads' HO_3.out).2.2 t353 p354 q354; cases e354; replace p354 := eq_true p354; replace q354 := eq_true q354))
                    go_loopg [7, 8] kj3 (fun kq v7 v8 w' => ∃ (x7_3 : Bool) (x8_3 : Int), v7 = .bool x7_3 ∧ v8 = .int .i64 x8_3 ∧ Aside0 (postroomlaw5_labelsOf.l1 kq l0 y349 x4_1 x5_1 (rdOf ByteArray.empty y349 t353) x7_3 x8_3 = some r) ∧ Aside0 (kq ≤ kj3) ∧ Aside0 (Kd.R Kd.string 9 w' w.heap.size (fun _ => True) (.slice (some ad354) y349.length co12) y349) ∧ Aside0 (Kd.R k52 52 w' w.heap.size (fun _ => True) u4 x4_1) ∧ Aside0 (Below w.heap.size w w'))
                    case atStart => exact ⟨(false), (0), zx27_0, zx27_0, H', ⟨Nat.le_refl _⟩, ⟨by (with_reducible repeat (first | apply Kd.R_alloc | apply Kd.R_drewN | apply Kd.R_drew)); exact HO_3.out⟩, ⟨by (with_reducible repeat (first | apply Kd.R_alloc | apply Kd.R_drewN | apply Kd.R_drew)); exact HO_4.out⟩, ⟨by repeat (first | (with_reducible first | exact HB.out | apply below_alloc | apply pw_below_drewN | apply below_drew1) | exact HB.out)⟩⟩
                    case round =>
                      clear H'
                      try clear c1
                      try clear p2
                      try clear p3
                      try clear q3
                      try clear hx3
                      try clear c4
                      try clear c5
                      try clear c5b0
                      try clear c6
                      try clear c7
                      try clear c7b0
                      try clear c8
                      try clear c8b0
                      try clear c10
                      try clear c10b0
                      try clear c11
                      try clear c11b0
                      try clear hx352_0
                      try clear hx354_0
                      try clear p2
                      try clear p352
                      try clear p354
                      try clear q352
                      try clear q354
                      obtain ⟨x7_3, x8_3, rfl, rfl, HA, HK3, HO_3, HO_4, HB⟩ := hrel
                      cases gk with
                      | zero => exact absurd HA.out (by simp [postroomlaw5_labelsOf.l1])
                      | succ k3 =>
                        have H := HA.out
                        clear HA
                        simp only [postroomlaw5_labelsOf.l1] at H
                        by_cases c13 : x8_3 < (x4_1.length : Int)
                        · rw [if_pos c13] at H
                          have c13b0 : decide (x8_3 < (x4_1.length : Int)) = true := decide_eq_true c13
                          clear c13
                          by_cases c14 : x7_3 = true
                          · subst c14
                            have H1 : (postroomlaw5_labelsOf.l1 k3 l0 y349 x4_1 x5_1 (rdOf ByteArray.empty y349 t353) true (wrap64 (x8_3 + 1))) = some r := by rw [if_pos rfl] at H; exact H
                            clear H
                            have H := H1
                            clear H1
                            have H' := Aside0.mk H
                            clear H
                            obtain ⟨Ao15, co15, eo15⟩ := Kd.R_slice HO_4.out
                            subst eo15
                            go_wp2
                            go_roundg k3
                            case measure => have := HK1.out; have := HJ3.out; have := HK3.out; omega
                            case rel => exact ⟨(true), (wrap64 (x8_3 + 1)), zx27_0, zx27_0, H', ⟨by have := HK1.out; have := HJ3.out; have := HK3.out; omega⟩, ⟨by (with_reducible repeat (first | apply Kd.R_alloc | apply Kd.R_drewN | apply Kd.R_drew)); exact HO_3.out⟩, ⟨by (with_reducible repeat (first | apply Kd.R_alloc | apply Kd.R_drewN | apply Kd.R_drew)); exact HO_4.out⟩, ⟨by repeat (first | (with_reducible first | exact HB.out | apply below_alloc | apply pw_below_drewN | apply below_drew1) | exact HB.out)⟩⟩
                          · replace c14 := Bool.eq_false_iff.mpr c14
                            subst c14
                            have H1 : (if 0 ≤ x8_3 then (postroomlaw5_labelsOf.l1 k3 l0 y349 x4_1 x5_1 (rdOf ByteArray.empty y349 t353) (((rd_T52 x4_1 x8_3).f0).toList == (rdOf ByteArray.empty y349 t353).toList) (wrap64 (x8_3 + 1))) else (none)) = some r := by rw [if_neg (show ¬ (false = true) by decide)] at H; exact H
                            clear H
                            have H := H1
                            clear H1
                            by_cases c16 : 0 ≤ x8_3
                            · rw [if_pos c16] at H
                              have c16b0 : decide (0 ≤ x8_3) = true := decide_eq_true c16
                              clear c16
                              have H' := Aside0.mk H
                              clear H
                              obtain ⟨Ao17, co17, eo17⟩ := Kd.R_slice HO_4.out
                              subst eo17
                              have p355 : 0 ≤ (x8_3 : Int) := of_decide_eq_true zx27_2
                              have q355 : x8_3 < (x4_1.length : Int) := of_decide_eq_true zx27_2
                              obtain ⟨ad355, e355, hx355_0, hx355_1⟩ := at_T52 (Kd.R_reads' HO_4.out).2.2 x8_3 p355 q355
                              cases e355
                              replace p355 := eq_true p355
                              replace q355 := eq_true q355
                              go_wp2
                              go_roundg k3
                              case measure => have := HK1.out; have := HJ3.out; have := HK3.out; omega
                              case rel => exact ⟨((((rd_T52 x4_1 x8_3).f0).toList == (rdOf ByteArray.empty y349 t353).toList)), (wrap64 (x8_3 + 1)), zx27_0, zx27_0, H', ⟨by have := HK1.out; have := HJ3.out; have := HK3.out; omega⟩, ⟨by (with_reducible repeat (first | apply Kd.R_alloc | apply Kd.R_drewN | apply Kd.R_drew)); exact HO_3.out⟩, ⟨by (with_reducible repeat (first | apply Kd.R_alloc | apply Kd.R_drewN | apply Kd.R_drew)); exact HO_4.out⟩, ⟨by repeat (first | (with_reducible first | exact HB.out | apply below_alloc | apply pw_below_drewN | apply below_drew1) | exact HB.out)⟩⟩
                            · rw [if_neg c16] at H
                              exact absurd H (by simp)
                        · rw [if_neg c13] at H
                          have c13b0 : decide (x8_3 < (x4_1.length : Int)) = false := decide_eq_false c13
                          clear c13
                          by_cases c18 : x7_3 = true
                          · subst c18
                            have H1 : (postroomlaw5_labelsOf.l0 k3 l0 y349 x4_1 (wrap64 (x5_1 + 1))) = some r := by rw [if_pos rfl] at H; exact H
                            clear H
                            have H := H1
                            clear H1
                            have H' := Aside0.mk H
                            clear H
                            obtain ⟨Ao19, co19, eo19⟩ := Kd.R_slice HO_4.out
                            subst eo19
                            go_wp2
                            go_roundg k3
                            case measure => have := HK1.out; have := HJ3.out; have := HK3.out; omega
                            case rel => exact ⟨(x4_1), (wrap64 (x5_1 + 1)), zx27_0, H', ⟨by have := HK1.out; have := HJ3.out; have := HK3.out; omega⟩, ⟨by (with_reducible repeat (first | apply Kd.R_alloc | apply Kd.R_drewN | apply Kd.R_drew)); exact HO_3.out⟩, ⟨by (with_reducible repeat (first | apply Kd.R_alloc | apply Kd.R_drewN | apply Kd.R_drew)); exact HO_4.out⟩, ⟨by repeat (first | (with_reducible first | exact HB.out | apply below_alloc | apply pw_below_drewN | apply below_drew1) | exact HB.out)⟩⟩
                          · replace c18 := Bool.eq_false_iff.mpr c18
                            subst c18
                            have H1 : (if 0 ≤ x5_1 then (if x5_1 < (l0.length : Int) then ((postroomlaw5_pick.f (wrap64 (Int.tdiv (rd l0 x5_1) 8)) 5).bind fun t357 => (if 0 ≤ t357 then (if t357 ≤ 5 then (if 5 ≤ 5 then (if x4_1.length < 4398046511104 then (postroomlaw5_labelsOf.l0 k3 l0 y349 (x4_1 ++ [(⟨(rdOf ByteArray.empty y349 t353), (⟨#[118, 119, 120, 121, 122]⟩ : ByteArray).extract (t357 : Int).toNat 5⟩ : S52)]) (wrap64 (x5_1 + 1))) else (none)) else (none)) else (none)) else (none))) else (none)) else (none)) = some r := by rw [if_neg (show ¬ (false = true) by decide)] at H; exact H
                            clear H
                            have H := H1
                            clear H1
                            by_cases c20 : 0 ≤ x5_1
                            · rw [if_pos c20] at H
                              have c20b0 : decide (0 ≤ x5_1) = true := decide_eq_true c20
                              clear c20
                              by_cases c21 : x5_1 < (l0.length : Int)
                              · rw [if_pos c21] at H
                                have c21b0 : decide (x5_1 < (l0.length : Int)) = true := decide_eq_true c21
                                clear c21
                                replace H := Option.bind_eq_some_iff.mp H
                                obtain ⟨t357, A220, H⟩ := H
                                replace H : (if 0 ≤ t357 then (if t357 ≤ 5 then (if 5 ≤ 5 then (if x4_1.length < 4398046511104 then (postroomlaw5_labelsOf.l0 k3 l0 y349 (x4_1 ++ [(⟨(rdOf ByteArray.empty y349 t353), (⟨#[118, 119, 120, 121, 122]⟩ : ByteArray).extract (t357 : Int).toNat 5⟩ : S52)]) (wrap64 (x5_1 + 1))) else (none)) else (none)) else (none)) else (none)) = some r := H
                                have A22 := Aside0.mk A220
                                clear A220
                                by_cases c23 : 0 ≤ t357
                                · rw [if_pos c23] at H
                                  have c23b0 := eq_true c23
                                  have c23b1 : decide (0 ≤ t357) = true := decide_eq_true c23
                                  clear c23
                                  by_cases c24 : t357 ≤ 5
                                  · rw [if_pos c24] at H
                                    have c24b0 := eq_true c24
                                    have c24b1 : decide (t357 ≤ 5) = true := decide_eq_true c24
                                    clear c24
                                    by_cases c25 : 5 ≤ 5
                                    · rw [if_pos c25] at H
                                      have c25b0 := eq_true c25
                                      have c25b1 : decide (5 ≤ 5) = true := decide_eq_true c25
                                      clear c25
                                      by_cases c26 : x4_1.length < 4398046511104
                                      · rw [if_pos c26] at H
                                        have LMc26 := Aside0.mk c26
                                        clear c26
                                        obtain ⟨y358, hy358⟩ : ∃ y_ : List (S52), y_ = (x4_1 ++ [(⟨(rdOf ByteArray.empty y349 t353), (⟨#[118, 119, 120, 121, 122]⟩ : ByteArray).extract (t357 : Int).toNat 5⟩ : S52)]) := ⟨_, rfl⟩
                                        replace H : (postroomlaw5_labelsOf.l0 k3 l0 y349 y358 (wrap64 (x5_1 + 1))) = some r := by first | (rw [hy358]; with_reducible exact H) | (have H2_ := (Option.bind_some _ _).symm.trans H; rw [hy358]; with_reducible exact H2_) | (have H2_ := (Option.bind_some _ _).symm.trans H; with_reducible exact H2_) | with_reducible exact H | (rw [hy358]; exact H) | exact H
                                        have Ny358 := Aside0.mk hy358
                                        clear hy358
                                        have H' := Aside0.mk H
                                        clear H
                                        obtain ⟨Ao27, co27, eo27⟩ := Kd.R_slice HO_4.out
                                        subst eo27
                                        have p356 : 0 ≤ (x5_1 : Int) := of_decide_eq_true zx27_2
                                        have q356 : x5_1 < (l0.length : Int) := of_decide_eq_true zx27_2
                                        obtain ⟨ad356, e356, hx356_0⟩ := Kd.at_int HR0.out x5_1 p356 q356
                                        obtain rfl : ad352 = ad356 := (by injection e356)
                                        replace hx356_0 := (HB.out.cell (World.block_lt_of_cell? w _ hx356_0)).trans hx356_0
                                        replace p356 := eq_true p356
                                        replace q356 := eq_true q356
                                        go_wp2_with (first | ((with_reducible refine gate_callee (f := 65) rfl ?_); refine goesL_ (some 52) rfl rfl Tryz.func65 (by kernel_rfl) rfl #[.int .i64 (wrap64 (Int.tdiv (rd l0 x5_1) 8)), .int .i64 5] rfl (by (try simp only [List.map_toArray, List.map_cons, List.map_nil]); first | done | rfl | (simp only [List.length_drop, List.length_take]; rfl)) ?_; (with_reducible refine (postroomlaw5_pick.calls (wrap64 (Int.tdiv (rd l0 x5_1) 8)) 5 t357 _ A22.out).mono ?_); rintro e w' ⟨rfl, ⟨nd, rfl⟩⟩; refine ⟨_, rfl, ?_⟩) | ((with_reducible refine gate_builtin (b := .append) (xs := #[.tmp 53, .tmp 58]) rfl ?_); at_builtin; refine Kd.R_append k52 (w0 := w) w.heap.size rfl (.tmp 53) (.tmp 58) 22 52 (.agg #[(.string ⟨#[]⟩), (.string ⟨#[]⟩)]) 32 rfl Tryz.underlying22 info52 rfl (by decide) (by omega) (.slice Ao27 x4_1.length co27) x4_1 (⟨(rdOf ByteArray.empty y349 t353), (⟨#[118, 119, 120, 121, 122]⟩ : ByteArray).extract (t357 : Int).toNat 5⟩ : S52) [.string (rdOf ByteArray.empty y349 t353), .string ((⟨#[118, 119, 120, 121, 122]⟩ : ByteArray).extract (t357 : Int).toNat 5)] (fun _ => True) (fun _ => False) rfl rfl ?aP (fun _ hk => hk.elim) ?aF ?aO ?aB ?aS ?aL ?_; (case aP => exact k52_mkM _ _ _ (⟨(rdOf ByteArray.empty y349 t353), (⟨#[118, 119, 120, 121, 122]⟩ : ByteArray).extract (t357 : Int).toNat 5⟩ : S52)); (case aB => exact zx27_1); (case aF => exact (fun _ _ => trivial)); (case aO => exact (by (with_reducible repeat (first | apply Kd.R_alloc | apply Kd.R_drewN | apply Kd.R_drew)); exact HO_4.out)); (case aS => exact (below_size zx27_1)); (case aL => have := LMc26.out; omega); intro v359 w28 ho hb hg hat; rw [← Ny358.out] at ho; have n0_ := Aside0.mk (Kd.R_over' (by (with_reducible repeat (first | apply Kd.R_alloc | apply Kd.R_drewN | apply Kd.R_drew)); exact HO_3.out) (Kd.R_typed (by (with_reducible repeat (first | apply Kd.R_alloc | apply Kd.R_drewN | apply Kd.R_drew)); exact HO_4.out)) (by decide) hg); have n1_ := Aside0.mk (hb); have n2_ := Aside0.mk (ho); clear HO_3; clear HB; clear HO_4; have HO_3 := n0_; have HB := n1_; have HO360 := n2_; clear n0_ n1_ n2_; clear ho hb hg hat))
                                        go_roundg k3
                                        case measure => have := HK1.out; have := HJ3.out; have := HK3.out; omega
                                        case rel => exact ⟨(y358), (wrap64 (x5_1 + 1)), zx27_0, H', ⟨by have := HK1.out; have := HJ3.out; have := HK3.out; omega⟩, ⟨by (with_reducible repeat (first | apply Kd.R_alloc | apply Kd.R_drewN | apply Kd.R_drew)); exact HO_3.out⟩, ⟨by (with_reducible repeat (first | apply Kd.R_alloc | apply Kd.R_drewN | apply Kd.R_drew)); exact HO360.out⟩, ⟨by repeat (first | (with_reducible first | exact HB.out | apply below_alloc | apply pw_below_drewN | apply below_drew1) | exact HB.out)⟩⟩
                                      · rw [if_neg c26] at H
                                        exact absurd H (by simp)
                                    · rw [if_neg c25] at H
                                      exact absurd H (by simp)
                                  · rw [if_neg c24] at H
                                    exact absurd H (by simp)
                                · rw [if_neg c23] at H
                                  exact absurd H (by simp)
                              · rw [if_neg c21] at H
                                exact absurd H (by simp)
                            · rw [if_neg c20] at H
                              exact absurd H (by simp)
                  · rw [if_neg c11] at H
                    exact absurd H (by simp)
                · rw [if_neg c10] at H
                  exact absurd H (by simp)
              · rw [if_neg c8] at H
                exact absurd H (by simp)
            · rw [if_neg c7] at H
              exact absurd H (by simp)
          · replace c6 := Bool.eq_false_iff.mpr c6
            subst c6
            have H1 : (some x4_1) = some r := by rw [if_neg (show ¬ (false = true) by decide)] at H; exact H
            clear H
            have H := H1
            clear H1
            obtain rfl := Option.some.inj H
            go_wp2
            go_ret
            exact ⟨_, by first | rfl | (simp [errW_none, errW_some] <;> rfl) | (simp [*, errW_none, errW_some] <;> rfl), by (with_reducible repeat (first | apply Kd.R_alloc | apply Kd.R_drewN | apply Kd.R_drew)); exact HO_4.out, by repeat (first | (with_reducible first | exact HB.out | apply below_alloc | apply pw_below_drewN | apply below_drew1) | exact HB.out)⟩

end Go.Proofs.YthaegbiblblccaaGreatDoor.XEnt
end
section
/- What the functions of the translation answer, each as a plain Lean function, and that the code comes to it; for a law: its row. Conditions: none but those that each theorem names. Written by a program of this session (wip/xp). -/
namespace Go.Proofs.YthaegbiblblccaaGreatDoor.XEnt
open Go.RowKit Go.Proofs.YthaegbiblblccaaGreatDoorW.PrintWords Go.Proofs.YthaegbiblblccaaGreatDoorW.PrintLast Go.Proofs.YthaegbiblblccaaGreatDoorW.PrintMore
attribute [local go_sem] max2_int min2_int max_two min_two max_three min_three max_four min_four   -- for this text's walks alone
theorem zx28_0 {p : Prop} (h : p := by repeat (first | (with_reducible first | exact HB.out | apply below_alloc | apply pw_below_drewN | apply below_drew1) | exact HB.out)) : p := h
theorem zx28_2 {p : Prop} (h : p := by (try simp only [List.map_toArray, List.map_cons, List.map_nil]); first | done | rfl | (simp only [List.length_drop, List.length_take]; rfl)) : p := h
theorem zx28_1 {p : Prop} (h : p := by repeat (first | (with_reducible first | exact HB.out | apply below_alloc | apply pw_below_drewN | apply below_drew1 | refine below_set ?_ GE370.out) | exact HB.out)) : p := h
set_option linter.unusedVariables false
set_option linter.unusedSimpArgs false

/-! ### postroomlaw5_samplesOf: function 41 -/
def postroomlaw5_samplesOf.l0 : Nat → List Int → Int → List (S54) → Int → Option ((List (S54)))
  | 0, _, _, _, _ => none
  | k + 1, x1, x5, x6, x7 => if x7 < (x1.length : Int) then (if x7 < 19 then (if 0 ≤ x7 then ((postroomlaw5_pick.f (rd x1 x7) 100).bind fun t365 => (if x6.length < 8796093022208 then (postroomlaw5_samplesOf.l0 k x1 (IntKind.u64.wrap ((IntKind.u64.wrap (x5 + 1)) + (IntKind.u64.wrap (t365)))) (x6 ++ [(⟨IntKind.u64.wrap ((IntKind.u64.wrap (x5 + 1)) + (IntKind.u64.wrap (t365))), rd x1 x7⟩ : S54)]) (wrap64 (x7 + 1))) else (none))) else (none)) else (some x6)) else (some x6)
def postroomlaw5_samplesOf.f (k : Nat) (a0 : Int) (l1 : List Int) : Option ((List (S54))) := postroomlaw5_samplesOf.l0 k l1 (Int.tmod a0 1099511627776) (([(⟨Int.tmod a0 1099511627776, wrap64 ((wrap64 (Int.tmod a0 1099511627776)) - 5)⟩ : S54)] : List (S54))) 0
theorem postroomlaw5_samplesOf.mono_l : ∀ k, (∀ y0 y1 y2 y3, LeO (postroomlaw5_samplesOf.l0 k y0 y1 y2 y3) (postroomlaw5_samplesOf.l0 (k + 1) y0 y1 y2 y3))
  | 0 => fun _ _ _ _ r h => by simp [postroomlaw5_samplesOf.l0] at h
  | k + 1 => by
    have ih0 := postroomlaw5_samplesOf.mono_l k
    · intro y0 y1 y2 y3
      unfold postroomlaw5_samplesOf.l0
      repeat' first
      | (with_reducible exact ih0 _ _ _ _)
      | (with_reducible exact LeO.refl _)
      | (with_reducible exact LeO.none _)
      | (with_reducible refine LeO.ite ?_ ?_)
      | (with_reducible refine LeO.bind ?_ (fun _ => ?_))
      | exact ih0 _ _ _ _
      | exact LeO.none _
      | refine LeO.ite ?_ ?_
      | refine LeO.bind ?_ (fun _ => ?_)
theorem postroomlaw5_samplesOf.mono : ∀ a0 a1 k, LeO (postroomlaw5_samplesOf.f k a0 a1) (postroomlaw5_samplesOf.f (k + 1) a0 a1) := by
  intro a0 a1 k
  have ih0 := postroomlaw5_samplesOf.mono_l k
  unfold postroomlaw5_samplesOf.f
  repeat' first
      | (with_reducible exact ih0 _ _ _ _)
      | (with_reducible exact LeO.refl _)
      | (with_reducible exact LeO.none _)
      | (with_reducible refine LeO.ite ?_ ?_)
      | (with_reducible refine LeO.bind ?_ (fun _ => ?_))
      | exact ih0 _ _ _ _
      | exact LeO.none _
      | refine LeO.ite ?_ ?_
      | refine LeO.bind ?_ (fun _ => ?_)
set_option maxHeartbeats 8000000 in
set_option maxRecDepth 100000 in
theorem postroomlaw5_samplesOf.calls (k : Nat) (a0 : Int) (A1 : Option Addr) (c1 : Nat) (l1 : List Int) (r : List (S54)) (w : World) (hr1 : Kd.C (Kd.int .i64) w A1 l1.length l1) (hc1 : l1.length ≤ c1) (h : postroomlaw5_samplesOf.f k a0 l1 = some r) :
    Calls Tryz.prog 41 #[.int .u64 a0, .slice A1 l1.length c1] w fun e w' => ∃ v0_ : Value, e = .returned (v0_) ∧ Kd.R k54 54 w' w.heap.size (fun _ => True) v0_ r ∧ Below w.heap.size w w' := by
  have hu54 := Tryz.underlying54
  have HR1 := Aside0.mk hr1
  have HC1 := Aside0.mk hc1
  clear hr1 hc1
  have HB := Aside0.mk (Below.refl w.heap.size w)
  have H : (postroomlaw5_samplesOf.l0 k l1 (Int.tmod a0 1099511627776) (([(⟨Int.tmod a0 1099511627776, wrap64 ((wrap64 (Int.tmod a0 1099511627776)) - 5)⟩ : S54)] : List (S54))) 0) = some r := h
  clear h
  obtain ⟨y361, hy361⟩ : ∃ y_ : List (S54), y_ = (([(⟨Int.tmod a0 1099511627776, wrap64 ((wrap64 (Int.tmod a0 1099511627776)) - 5)⟩ : S54)] : List (S54))) := ⟨_, rfl⟩
  replace H : (postroomlaw5_samplesOf.l0 k l1 (Int.tmod a0 1099511627776) y361 0) = some r := by first | (rw [hy361]; with_reducible exact H) | (have H2_ := (Option.bind_some _ _).symm.trans H; rw [hy361]; with_reducible exact H2_) | (have H2_ := (Option.bind_some _ _).symm.trans H; with_reducible exact H2_) | with_reducible exact H | (rw [hy361]; exact H) | exact H
  have Ny361 := Aside0.mk hy361
  clear hy361
  have H' := Aside0.mk H
  clear H
  go_enter Tryz.func41, Tryz.ntmps41
  go_wp2_with (first | ((with_reducible refine gate_dst (N := 15) rfl ?_); refine Kd.R_lit k54 _ 54 ?hg (N := 15) ?hd (xs := ([(⟨Int.tmod a0 1099511627776, wrap64 ((wrap64 (Int.tmod a0 1099511627776)) - 5)⟩ : S54)] : List (S54))) (inner := [.int .u64 (Int.tmod a0 1099511627776), .int .i64 (wrap64 ((wrap64 (Int.tmod a0 1099511627776)) - 5))]) (ok := fun _ => True) (okp := fun _ => True) ?hr ?hp (fun _ hk => hk) trivial (Below.refl _ _) (Nat.le_refl _) (by simp) ?_; (case hd => rfl); (case hg => rfl); (case hr => first | (go_simp; done) | (go_simp; rfl)); (case hp => exact (Reps.c2 (show Kd.M k54 _ _ _ (⟨Int.tmod a0 1099511627776, wrap64 ((wrap64 (Int.tmod a0 1099511627776)) - 5)⟩ : S54) [.int .u64 (Int.tmod a0 1099511627776), .int .i64 (wrap64 ((wrap64 (Int.tmod a0 1099511627776)) - 5))] from (k54_mkM _ _ _ (⟨Int.tmod a0 1099511627776, wrap64 ((wrap64 (Int.tmod a0 1099511627776)) - 5)⟩ : S54) )) (Reps.none _ _))); intro v362 w3 ho4 hb hg_ hnew_; clear hg_ hnew_; (first | rw [← Ny361.out] at ho4 | (simp only [Int.reduceToNat] at ho4; rw [← Ny361.out] at ho4)); have n0_ := Aside0.mk (Kd.R_lower ho4 (below_size zx28_0)); have n1_ := Aside0.mk (below_step zx28_0 hb); clear HB; have HO363 := n0_; have HB := n1_; clear n0_ n1_; clear hb ho4))
  go_loopg [5, 6, 7] k (fun kq v5 v6 v7 w' => ∃ (x5_1 : Int) (x6_1 : List (S54)) (x7_1 : Int), v5 = .int .u64 x5_1 ∧ v7 = .int .i64 x7_1 ∧ Aside0 (postroomlaw5_samplesOf.l0 kq l1 x5_1 x6_1 x7_1 = some r) ∧ Aside0 (kq ≤ k) ∧ Aside0 (Kd.R k54 54 w' w.heap.size (fun _ => True) v6 x6_1) ∧ Aside0 (Below w.heap.size w w'))
  case atStart => exact ⟨(Int.tmod a0 1099511627776), (y361), (0), (by first | rfl | (simp; done) | (simp [*]; done)), (by first | rfl | (simp; done) | (simp [*]; done)), H', ⟨Nat.le_refl _⟩, ⟨by (with_reducible repeat (first | apply Kd.R_alloc | apply Kd.R_drewN | apply Kd.R_drew)); exact HO363.out⟩, ⟨by repeat (first | (with_reducible first | exact HB.out | apply below_alloc | apply pw_below_drewN | apply below_drew1) | exact HB.out)⟩⟩
  case round =>
    clear H'
    try clear c1
    try clear c2
    try clear p2
    try clear c4
    obtain ⟨x5_1, x6_1, x7_1, rfl, rfl, HA, HK1, HO_6, HB⟩ := hrel
    cases gk with
    | zero => exact absurd HA.out (by simp [postroomlaw5_samplesOf.l0])
    | succ k1 =>
      have H := HA.out
      clear HA
      simp only [postroomlaw5_samplesOf.l0] at H
      by_cases c5 : x7_1 < (l1.length : Int)
      · rw [if_pos c5] at H
        have c5b0 : decide (x7_1 < (l1.length : Int)) = true := decide_eq_true c5
        clear c5
        by_cases c6 : x7_1 < 19
        · rw [if_pos c6] at H
          have c6b0 : decide (x7_1 < 19) = true := decide_eq_true c6
          clear c6
          by_cases c7 : 0 ≤ x7_1
          · rw [if_pos c7] at H
            have c7b0 : decide (0 ≤ x7_1) = true := decide_eq_true c7
            clear c7
            replace H := Option.bind_eq_some_iff.mp H
            obtain ⟨t365, A80, H⟩ := H
            replace H : (if x6_1.length < 8796093022208 then (postroomlaw5_samplesOf.l0 k1 l1 (IntKind.u64.wrap ((IntKind.u64.wrap (x5_1 + 1)) + (IntKind.u64.wrap (t365)))) (x6_1 ++ [(⟨IntKind.u64.wrap ((IntKind.u64.wrap (x5_1 + 1)) + (IntKind.u64.wrap (t365))), rd l1 x7_1⟩ : S54)]) (wrap64 (x7_1 + 1))) else (none)) = some r := H
            have A8 := Aside0.mk A80
            clear A80
            by_cases c9 : x6_1.length < 8796093022208
            · rw [if_pos c9] at H
              have LMc9 := Aside0.mk c9
              clear c9
              obtain ⟨y367, hy367⟩ : ∃ y_ : List (S54), y_ = (x6_1 ++ [(⟨IntKind.u64.wrap ((IntKind.u64.wrap (x5_1 + 1)) + (IntKind.u64.wrap (t365))), rd l1 x7_1⟩ : S54)]) := ⟨_, rfl⟩
              replace H : (postroomlaw5_samplesOf.l0 k1 l1 (IntKind.u64.wrap ((IntKind.u64.wrap (x5_1 + 1)) + (IntKind.u64.wrap (t365)))) y367 (wrap64 (x7_1 + 1))) = some r := by first | (rw [hy367]; with_reducible exact H) | (have H2_ := (Option.bind_some _ _).symm.trans H; rw [hy367]; with_reducible exact H2_) | (have H2_ := (Option.bind_some _ _).symm.trans H; with_reducible exact H2_) | with_reducible exact H | (rw [hy367]; exact H) | exact H
              have Ny367 := Aside0.mk hy367
              clear hy367
              have H' := Aside0.mk H
              clear H
              have p364 : 0 ≤ (x7_1 : Int) := of_decide_eq_true (by first | (with_reducible assumption) | assumption)
              have q364 : x7_1 < (l1.length : Int) := of_decide_eq_true (by first | (with_reducible assumption) | assumption)
              obtain ⟨ad364, e364, hx364_0⟩ := Kd.at_int HR1.out x7_1 p364 q364
              cases e364
              replace hx364_0 := (HB.out.cell (World.block_lt_of_cell? w _ hx364_0)).trans hx364_0
              replace p364 := eq_true p364
              replace q364 := eq_true q364
              go_wp2_with (first | ((with_reducible refine gate_callee (f := 65) rfl ?_); refine goesL_ (some 32) rfl rfl Tryz.func65 (by kernel_rfl) rfl #[.int .i64 (rd l1 x7_1), .int .i64 100] rfl zx28_2 ?_; (with_reducible refine (postroomlaw5_pick.calls (rd l1 x7_1) 100 t365 _ A8.out).mono ?_); rintro e w' ⟨rfl, ⟨nd, rfl⟩⟩; refine ⟨_, rfl, ?_⟩; have p366 : 0 ≤ (x7_1 : Int) := of_decide_eq_true (by first | (with_reducible assumption) | assumption); have q366 : x7_1 < (l1.length : Int) := of_decide_eq_true (by first | (with_reducible assumption) | assumption); obtain ⟨ad366, e366, hx366_0⟩ := Kd.at_int HR1.out x7_1 p366 q366; obtain rfl : ad364 = ad366 := (by injection e366); replace hx366_0 := (HB.out.cell (World.block_lt_of_cell? w _ hx366_0)).trans hx366_0; replace p366 := eq_true p366; replace q366 := eq_true q366) | ((with_reducible refine gate_builtin (b := .append) (xs := #[.tmp 35, .tmp 42]) rfl ?_); at_builtin; refine Kd.R_append k54 (w0 := w) w.heap.size rfl (.tmp 35) (.tmp 42) 23 54 (.agg #[(.int .u64 0), (.int .i64 0)]) 16 rfl Tryz.underlying23 info54 rfl (by decide) (by omega) u6 x6_1 (⟨IntKind.u64.wrap ((IntKind.u64.wrap (x5_1 + 1)) + (IntKind.u64.wrap (t365))), rd l1 x7_1⟩ : S54) [.int .u64 (IntKind.u64.wrap ((IntKind.u64.wrap (x5_1 + 1)) + (IntKind.u64.wrap (t365)))), .int .i64 (rd l1 x7_1)] (fun _ => True) (fun _ => False) rfl rfl ?aP (fun _ hk => hk.elim) ?aF ?aO ?aB ?aS ?aL ?_; (case aP => exact k54_mkM _ _ _ (⟨IntKind.u64.wrap ((IntKind.u64.wrap (x5_1 + 1)) + (IntKind.u64.wrap (t365))), rd l1 x7_1⟩ : S54)); (case aB => exact zx28_0); (case aF => exact (fun _ _ => trivial)); (case aO => exact (by (with_reducible repeat (first | apply Kd.R_alloc | apply Kd.R_drewN | apply Kd.R_drew)); exact HO_6.out)); (case aS => exact (below_size zx28_0)); (case aL => have := LMc9.out; omega); intro v368 w10 ho hb hg hat; rw [← Ny367.out] at ho; have n0_ := Aside0.mk (hb); have n1_ := Aside0.mk (ho); clear HB; clear HO_6; have HB := n0_; have HO369 := n1_; clear n0_ n1_; clear ho hb hg hat))
              go_roundg k1
              case measure => have := HK1.out; omega
              case rel => exact ⟨(IntKind.u64.wrap ((IntKind.u64.wrap (x5_1 + 1)) + (IntKind.u64.wrap (t365)))), (y367), (wrap64 (x7_1 + 1)), (by first | rfl | (simp; done) | (simp [*]; done)), (by first | rfl | (simp; done) | (simp [*]; done)), H', ⟨by have := HK1.out; omega⟩, ⟨by (with_reducible repeat (first | apply Kd.R_alloc | apply Kd.R_drewN | apply Kd.R_drew)); exact HO369.out⟩, ⟨by repeat (first | (with_reducible first | exact HB.out | apply below_alloc | apply pw_below_drewN | apply below_drew1) | exact HB.out)⟩⟩
            · rw [if_neg c9] at H
              exact absurd H (by simp)
          · rw [if_neg c7] at H
            exact absurd H (by simp)
        · rw [if_neg c6] at H
          have c6b0 : decide (x7_1 < 19) = false := decide_eq_false c6
          clear c6
          obtain rfl := Option.some.inj H
          go_wp2
          go_ret
          exact ⟨_, by first | rfl | (simp [errW_none, errW_some] <;> rfl) | (simp [*, errW_none, errW_some] <;> rfl), by (with_reducible repeat (first | apply Kd.R_alloc | apply Kd.R_drewN | apply Kd.R_drew)); exact HO_6.out, by repeat (first | (with_reducible first | exact HB.out | apply below_alloc | apply pw_below_drewN | apply below_drew1) | exact HB.out)⟩
      · rw [if_neg c5] at H
        have c5b0 : decide (x7_1 < (l1.length : Int)) = false := decide_eq_false c5
        clear c5
        obtain rfl := Option.some.inj H
        go_wp2
        go_ret
        exact ⟨_, by first | rfl | (simp [errW_none, errW_some] <;> rfl) | (simp [*, errW_none, errW_some] <;> rfl), by (with_reducible repeat (first | apply Kd.R_alloc | apply Kd.R_drewN | apply Kd.R_drew)); exact HO_6.out, by repeat (first | (with_reducible first | exact HB.out | apply below_alloc | apply pw_below_drewN | apply below_drew1) | exact HB.out)⟩

/-! ### postroomlaw5_entryOf: function 21 -/
def postroomlaw5_entryOf.f (k : Nat) (l0 : List Int) (a1 : Int) (l2 : List Int) : Option ((List (S52)) × (List (S54))) := (postroomlaw5_labelsOf.f k l0).bind fun t371 => ((postroomlaw5_samplesOf.f k a1 l2).bind fun t374 => (some (t371, t374)))
theorem postroomlaw5_entryOf.mono : ∀ a0 a1 a2 k, LeO (postroomlaw5_entryOf.f k a0 a1 a2) (postroomlaw5_entryOf.f (k + 1) a0 a1 a2) := by
  intro a0 a1 a2 k
  unfold postroomlaw5_entryOf.f
  repeat' first
      | (with_reducible exact postroomlaw5_labelsOf.mono _ _)
      | (with_reducible exact postroomlaw5_samplesOf.mono _ _ _)
      | (with_reducible exact LeO.refl _)
      | (with_reducible exact LeO.none _)
      | (with_reducible refine LeO.ite ?_ ?_)
      | (with_reducible refine LeO.bind ?_ (fun _ => ?_))
      | exact postroomlaw5_labelsOf.mono _ _
      | exact postroomlaw5_samplesOf.mono _ _ _
      | exact LeO.none _
      | refine LeO.ite ?_ ?_
      | refine LeO.bind ?_ (fun _ => ?_)
set_option maxHeartbeats 8000000 in
set_option maxRecDepth 100000 in
theorem postroomlaw5_entryOf.calls (k : Nat) (A0 : Option Addr) (c0 : Nat) (l0 : List Int) (a1 : Int) (A2 : Option Addr) (c2 : Nat) (l2 : List Int) (r1 : List (S52)) (r2 : List (S54)) (w : World) (hr0 : Kd.C (Kd.int .i64) w A0 l0.length l0) (hc0 : l0.length ≤ c0) (hr2 : Kd.C (Kd.int .i64) w A2 l2.length l2) (hc2 : l2.length ≤ c2) (h : postroomlaw5_entryOf.f k l0 a1 l2 = some (r1, r2)) :
    Calls Tryz.prog 21 #[.slice A0 l0.length c0, .int .u64 a1, .slice A2 l2.length c2] w fun e w' => ∃ v0_ v1_ : Value, e = .returned (.agg #[v0_, v1_]) ∧ Kd.R k52 52 w' w.heap.size (fun _ => True) v0_ r1 ∧ Kd.R k54 54 w' w.heap.size (fun _ => True) v1_ r2 ∧ Below w.heap.size w w' := by
  have hu25 := Tryz.underlying25
  have HR0 := Aside0.mk hr0
  have HC0 := Aside0.mk hc0
  clear hr0 hc0
  have HR2 := Aside0.mk hr2
  have HC2 := Aside0.mk hc2
  clear hr2 hc2
  have HB := Aside0.mk (Below.refl w.heap.size w)
  have H : ((postroomlaw5_labelsOf.f k l0).bind fun t371 => ((postroomlaw5_samplesOf.f k a1 l2).bind fun t374 => (some (t371, t374)))) = some (r1, r2) := h
  clear h
  replace H := Option.bind_eq_some_iff.mp H
  obtain ⟨t371, A40, H⟩ := H
  replace H : ((postroomlaw5_samplesOf.f k a1 l2).bind fun t374 => (some (t371, t374))) = some (r1, r2) := H
  have A4 := Aside0.mk A40
  clear A40
  replace H := Option.bind_eq_some_iff.mp H
  obtain ⟨t374, A50, H⟩ := H
  replace H : (some (t371, t374)) = some (r1, r2) := H
  have A5 := Aside0.mk A50
  clear A50
  simp only [Option.some.injEq, Prod.mk.injEq] at H
  obtain ⟨rfl, rfl⟩ := H
  go_enter Tryz.func21, Tryz.ntmps21
  go_wp2_with (first | ((with_reducible refine gate_dst (N := 6) rfl ?_); refine box_event ?hg (N := 6) ?hd (cs := #[.slice none 0 0, .slice none 0 0]) (t := 25) ?hr ?_; (case hd => rfl); (case hg => rfl); (case hr => first | (go_simp; done) | (go_simp; rfl)); intro gb370 hg w6 hbox hb; have n0_ := Aside0.mk (below_step zx28_0 hb); have n1_ := Aside0.mk (hbox); have n2_ := Aside0.mk ((by rw [hg]; exact (below_size zx28_0) : w.heap.size ≤ gb370)); have n3_ := Aside0.mk ((by rw [hg]; exact (below_size zx28_0) : w.heap.size ≤ gb370)); clear HB; have HB := n0_; have BK370 := n1_; have GW370 := n2_; have GE370 := n3_; clear n0_ n1_ n2_ n3_; clear hb hbox hg) | ((with_reducible refine gate_callee (f := 40) rfl ?_); refine goesL_ (some 8) rfl rfl Tryz.func40 (by kernel_rfl) rfl #[.slice A0 l0.length c0] rfl zx28_2 ?_; (with_reducible refine (postroomlaw5_labelsOf.calls k _ _ l0 t371 _ ?side1 ?side2 A4.out).mono ?_); (case side1 => repeat (first | exact (Kd.C_below HR0.out HB.out) | (with_reducible refine Kd.C_alloc ?_ _) | (with_reducible refine Kd.C_drewN ?_ _) | (with_reducible refine Kd.C_drew ?_))); (case side2 => exact HC0.out); rintro e w7 ⟨v372, rfl, ho0, hb⟩; refine ⟨_, rfl, ?_⟩; have n0_ := Aside0.mk (Kd.R_lower ho0 (below_size zx28_1)); have n1_ := Aside0.mk (blk_below (g := gb370) (o := .cells #[.slice none 0 0, .slice none 0 0] 25 (0, 0)) (by (with_reducible repeat (first | refine blk_drewN ?_ _ | refine blk_drew ?_ | refine blk_alloc ?_ _)); exact BK370.out) hb); have n2_ := Aside0.mk (below_step zx28_1 hb); clear BK370; clear HB; have HO373 := n0_; have BK370 := n1_; have HB := n2_; clear n0_ n1_ n2_; (try clear hb); (try clear hb2); (try clear hk); (try clear hi); (try clear ho0)) | ((with_reducible refine gate_callee (f := 41) rfl ?_); refine goesL_ (some 11) rfl rfl Tryz.func41 (by kernel_rfl) rfl #[.int .u64 a1, .slice A2 l2.length c2] rfl zx28_2 ?_; (with_reducible refine (postroomlaw5_samplesOf.calls k a1 _ _ l2 t374 _ ?side1 ?side2 A5.out).mono ?_); (case side1 => repeat (first | exact (Kd.C_below HR2.out HB.out) | (with_reducible refine Kd.C_alloc ?_ _) | (with_reducible refine Kd.C_drewN ?_ _) | (with_reducible refine Kd.C_drew ?_))); (case side2 => exact HC2.out); rintro e w8 ⟨v375, rfl, ho0, hb⟩; refine ⟨_, rfl, ?_⟩; have n0_ := Aside0.mk (Kd.R_below (by (with_reducible repeat (first | apply Kd.R_alloc | apply Kd.R_drewN | apply Kd.R_drew)); exact HO373.out) hb); have n1_ := Aside0.mk (Kd.R_lower ho0 (below_size zx28_1)); have n2_ := Aside0.mk (blk_below (g := gb370) (o := .cells #[.slice none 0 0, .slice none 0 0] 25 (0, 0)) (by (with_reducible repeat (first | refine blk_drewN ?_ _ | refine blk_drew ?_ | refine blk_alloc ?_ _)); exact BK370.out) hb); have n3_ := Aside0.mk (below_step zx28_1 hb); (try clear HO373); clear BK370; clear HB; have HO373 := n0_; have HO376 := n1_; have BK370 := n2_; have HB := n3_; clear n0_ n1_ n2_ n3_; (try clear hb); (try clear hb2); (try clear hk); (try clear hi); (try clear ho0); obtain ⟨Ao9, co9, eo9⟩ := Kd.R_slice HO376.out; subst eo9; obtain ⟨Ao10, co10, eo10⟩ := Kd.R_slice HO373.out; subst eo10; have hcz11_0 : w8.cell? ⟨gb370, 0, none⟩ = some (.slice none 0 0) := (blk_cell BK370.out 0).trans rfl; have hcz11_1 : w8.cell? ⟨gb370, 1, none⟩ = some (.slice none 0 0) := (blk_cell BK370.out 1).trans rfl; have hfz11_0 := blk_frozen BK370.out 0; have hfz11_1 := blk_frozen BK370.out 1))
  refine bodyPost_ret (results_cell_row rfl _ _ gb370 25 #[.slice Ao10 t371.length co10, .slice Ao9 t374.length co9] (0, 0) _ rfl (by (with_reducible repeat (first | refine blk_drewN ?_ _ | refine blk_drew ?_ | refine blk_alloc ?_ _)); refine blk_put (cs := #[.slice Ao10 t371.length co10, .slice none 0 0]) ?_ 1 _ rfl; (with_reducible repeat (first | refine blk_drewN ?_ _ | refine blk_drew ?_ | refine blk_alloc ?_ _)); refine blk_put (cs := #[.slice none 0 0, .slice none 0 0]) ?_ 0 _ rfl; (with_reducible repeat (first | refine blk_drewN ?_ _ | refine blk_drew ?_ | refine blk_alloc ?_ _)); exact BK370.out) Tryz.underlying25 rfl (by kernel_rfl)) rfl ?_
  exact ⟨_, _, by first | rfl | (simp [errW_none, errW_some] <;> rfl) | (simp [*, errW_none, errW_some] <;> rfl), by (with_reducible repeat (first | apply Kd.R_alloc | apply Kd.R_drewN | apply Kd.R_drew)); exact Kd.R_mono (Kd.R_far (p := ⟨gb370, 1, none⟩) (Kd.R_far (p := ⟨gb370, 0, none⟩) (Kd.R_types HO373.out BK370.out (by decide)) (fun _ hk => hk.2) (.slice Ao10 t371.length co10)) (fun _ hk => hk.2) (.slice Ao9 t374.length co9)) (fun _ hk => trivial), by (with_reducible repeat (first | apply Kd.R_alloc | apply Kd.R_drewN | apply Kd.R_drew)); exact Kd.R_mono (Kd.R_far (p := ⟨gb370, 1, none⟩) (Kd.R_far (p := ⟨gb370, 0, none⟩) (Kd.R_types HO376.out BK370.out (by decide)) (fun _ hk => hk.2) (.slice Ao10 t371.length co10)) (fun _ hk => hk.2) (.slice Ao9 t374.length co9)) (fun _ hk => trivial), by repeat (first | (with_reducible first | exact HB.out | apply below_alloc | apply pw_below_drewN | apply below_drew1 | refine below_set ?_ GE370.out) | exact HB.out)⟩

end Go.Proofs.YthaegbiblblccaaGreatDoor.XEnt
end
section
/- What the functions of the translation answer, each as a plain Lean function, and that the code comes to it; for a law: its row. Conditions: none but those that each theorem names. Written by a program of this session (wip/xp). -/
namespace Go.Proofs.YthaegbiblblccaaGreatDoor.XEnt
open Go.RowKit Go.Proofs.YthaegbiblblccaaGreatDoorW.PrintWords Go.Proofs.YthaegbiblblccaaGreatDoorW.PrintLast Go.Proofs.YthaegbiblblccaaGreatDoorW.PrintMore
attribute [local go_sem] max2_int min2_int max_two min_two max_three min_three max_four min_four   -- for this text's walks alone
theorem zx25_3 {p : Prop} (h : p := by (with_reducible repeat (first | refine blk_drewN ?_ _ | refine blk_drew ?_ | refine blk_alloc ?_ _)); exact BK316.out) : p := h
theorem zx25_1 {p : Prop} (h : p := by repeat (first | (with_reducible first | exact HB.out | apply below_alloc | apply pw_below_drewN | apply below_drew1) | exact HB.out)) : p := h
theorem zx25_4 {p : Prop} (h : p := by repeat (first | (with_reducible first | exact HB.out | apply below_alloc | apply pw_below_drewN | apply below_drew1 | refine below_set ?_ GE316.out) | exact HB.out)) : p := h
theorem zx25_2 {p : Prop} (h : p := by repeat (first | (with_reducible first | exact HB.out | apply below_alloc | apply pw_below_drewN | apply below_drew1 | refine below_set ?_ GE316.out | refine below_set ?_ GE317.out) | exact HB.out)) : p := h
set_option linter.unusedVariables false
set_option linter.unusedSimpArgs false

/-! ### postroomref3_Value: function 18 -/
def postroomref3_Value.l0 : Nat → List (S52) → ByteArray → Int → Option (ByteArray)
  | 0, _, _, _ => none
  | k + 1, x0, x1, x5 => if x5 < (x0.length : Int) then (if 0 ≤ x5 then (if ((rd_T52 x0 x5).f0).toList = x1.toList then (some ((rd_T52 x0 x5).f1)) else (postroomref3_Value.l0 k x0 x1 (wrap64 (x5 + 1)))) else (none)) else (some (⟨#[]⟩ : ByteArray))
def postroomref3_Value.f (k : Nat) (l0 : List (S52)) (a1 : ByteArray) : Option (ByteArray) := postroomref3_Value.l0 k l0 a1 0
theorem postroomref3_Value.mono_l : ∀ k, (∀ y0 y1 y2, LeO (postroomref3_Value.l0 k y0 y1 y2) (postroomref3_Value.l0 (k + 1) y0 y1 y2))
  | 0 => fun _ _ _ r h => by simp [postroomref3_Value.l0] at h
  | k + 1 => by
    have ih0 := postroomref3_Value.mono_l k
    · intro y0 y1 y2
      unfold postroomref3_Value.l0
      repeat' first
      | (with_reducible exact ih0 _ _ _)
      | (with_reducible exact LeO.refl _)
      | (with_reducible exact LeO.none _)
      | (with_reducible refine LeO.ite ?_ ?_)
      | (with_reducible refine LeO.bind ?_ (fun _ => ?_))
      | exact ih0 _ _ _
      | exact LeO.none _
      | refine LeO.ite ?_ ?_
      | refine LeO.bind ?_ (fun _ => ?_)
theorem postroomref3_Value.mono : ∀ a0 a1 k, LeO (postroomref3_Value.f k a0 a1) (postroomref3_Value.f (k + 1) a0 a1) := by
  intro a0 a1 k
  have ih0 := postroomref3_Value.mono_l k
  unfold postroomref3_Value.f
  repeat' first
      | (with_reducible exact ih0 _ _ _)
      | (with_reducible exact LeO.refl _)
      | (with_reducible exact LeO.none _)
      | (with_reducible refine LeO.ite ?_ ?_)
      | (with_reducible refine LeO.bind ?_ (fun _ => ?_))
      | exact ih0 _ _ _
      | exact LeO.none _
      | refine LeO.ite ?_ ?_
      | refine LeO.bind ?_ (fun _ => ?_)
/-! ### postroomref4_Between: function 19 -/
def postroomref4_Between.l0 : Nat → List (S54) → Int → Int → List (S54) → Int → Option ((List (S54)))
  | 0, _, _, _, _, _ => none
  | k + 1, x0, x1, x2, x7, x8 => if x8 < (x0.length : Int) then (if 0 ≤ x8 then (if ((rd_T54 x0 x8).f0) ≥ x1 then (if ((rd_T54 x0 x8).f0) ≤ x2 then (if x7.length < 8796093022208 then (postroomref4_Between.l0 k x0 x1 x2 (x7 ++ [(⟨(rd_T54 x0 x8).f0, (rd_T54 x0 x8).f1⟩ : S54)]) (wrap64 (x8 + 1))) else (none)) else (postroomref4_Between.l0 k x0 x1 x2 x7 (wrap64 (x8 + 1)))) else (postroomref4_Between.l0 k x0 x1 x2 x7 (wrap64 (x8 + 1)))) else (none)) else (some x7)
def postroomref4_Between.f (k : Nat) (l0 : List (S54)) (a1 : Int) (a2 : Int) : Option ((List (S54))) := postroomref4_Between.l0 k l0 a1 a2 ([] : List (S54)) 0
theorem postroomref4_Between.mono_l : ∀ k, (∀ y0 y1 y2 y3 y4, LeO (postroomref4_Between.l0 k y0 y1 y2 y3 y4) (postroomref4_Between.l0 (k + 1) y0 y1 y2 y3 y4))
  | 0 => fun _ _ _ _ _ r h => by simp [postroomref4_Between.l0] at h
  | k + 1 => by
    have ih0 := postroomref4_Between.mono_l k
    · intro y0 y1 y2 y3 y4
      unfold postroomref4_Between.l0
      repeat' first
      | (with_reducible exact ih0 _ _ _ _ _)
      | (with_reducible exact LeO.refl _)
      | (with_reducible exact LeO.none _)
      | (with_reducible refine LeO.ite ?_ ?_)
      | (with_reducible refine LeO.bind ?_ (fun _ => ?_))
      | exact ih0 _ _ _ _ _
      | exact LeO.none _
      | refine LeO.ite ?_ ?_
      | refine LeO.bind ?_ (fun _ => ?_)
theorem postroomref4_Between.mono : ∀ a0 a1 a2 k, LeO (postroomref4_Between.f k a0 a1 a2) (postroomref4_Between.f (k + 1) a0 a1 a2) := by
  intro a0 a1 a2 k
  have ih0 := postroomref4_Between.mono_l k
  unfold postroomref4_Between.f
  repeat' first
      | (with_reducible exact ih0 _ _ _ _ _)
      | (with_reducible exact LeO.refl _)
      | (with_reducible exact LeO.none _)
      | (with_reducible refine LeO.ite ?_ ?_)
      | (with_reducible refine LeO.bind ?_ (fun _ => ?_))
      | exact ih0 _ _ _ _ _
      | exact LeO.none _
      | refine LeO.ite ?_ ?_
      | refine LeO.bind ?_ (fun _ => ?_)
/-! ### postroomref5_Canon: function 20 -/
def postroomref5_Canon.f (k : Nat) (l0_0 : List (S52)) (l0_1 : List (S54)) : Option ((List (S52)) × (List (S54))) := (postroomref3_Canon.f k l0_0).bind fun bt318 => (some (bt318.1, l0_1))
theorem postroomref5_Canon.mono : ∀ a0 a1 k, LeO (postroomref5_Canon.f k a0 a1) (postroomref5_Canon.f (k + 1) a0 a1) := by
  intro a0 a1 k
  unfold postroomref5_Canon.f
  repeat' first
      | (with_reducible exact postroomref3_Canon.mono _ _)
      | (with_reducible exact LeO.refl _)
      | (with_reducible exact LeO.none _)
      | (with_reducible refine LeO.ite ?_ ?_)
      | (with_reducible refine LeO.bind ?_ (fun _ => ?_))
      | exact postroomref3_Canon.mono _ _
      | exact LeO.none _
      | refine LeO.ite ?_ ?_
      | refine LeO.bind ?_ (fun _ => ?_)
set_option maxHeartbeats 8000000 in
set_option maxRecDepth 100000 in
theorem postroomref5_Canon.calls (k : Nat) (A0_0 : Option Addr) (c0_0 : Nat) (l0_0 : List (S52)) (P0_1_ : Nat → Prop) (A0_1 : Option Addr) (c0_1 : Nat) (l0_1 : List (S54)) (r1 : List (S52)) (r2 : List (S54)) (w : World) (hr0_0 : Kd.C k52 w A0_0 l0_0.length l0_0) (hc0_0 : l0_0.length ≤ c0_0) (hs0_1 : Kd.V k54 54 w w.heap.size (fun k_ => P0_1_ k_) (.slice A0_1 l0_1.length c0_1) l0_1) (h : postroomref5_Canon.f k l0_0 l0_1 = some (r1, r2)) :
    Calls Tryz.prog 20 #[.agg #[.slice A0_0 l0_0.length c0_0, .slice A0_1 l0_1.length c0_1]] w fun e w' => ∃ v0_ v1_ : Value, e = .returned (.agg #[v0_, v1_]) ∧ Kd.R k52 52 w' w.heap.size (fun k_ => (w.heap.size ≤ k_)) v0_ r1 ∧ Kd.V k54 54 w' w.heap.size (fun k_ => (P0_1_ k_ ∨ w.heap.size ≤ k_) ∧ some k_ ≠ (v0_ : Value).ownBlock) v1_ r2 ∧ Below w.heap.size w w' := by
  have hu25 := Tryz.underlying25
  have HR0_0 := Aside0.mk hr0_0
  have HC0_0 := Aside0.mk hc0_0
  clear hr0_0 hc0_0
  have HO0_1 := Aside0.mk (show Kd.V k54 54 w w.heap.size (fun k_ => (P0_1_ k_ ∨ w.heap.size ≤ k_)) (.slice A0_1 l0_1.length c0_1) l0_1 from Kd.V_mono hs0_1 (fun k_ hk => .inl hk))
  have HB := Aside0.mk (Below.refl w.heap.size w)
  have H : ((postroomref3_Canon.f k l0_0).bind fun bt318 => (some (bt318.1, l0_1))) = some (r1, r2) := h
  clear h
  replace H := Option.bind_eq_some_iff.mp H
  obtain ⟨⟨t318, t319⟩, A20, H⟩ := H
  replace H : (some (t318, l0_1)) = some (r1, r2) := H
  have A2 := Aside0.mk A20
  clear A20
  simp only [Option.some.injEq, Prod.mk.injEq] at H
  obtain ⟨rfl, rfl⟩ := H
  go_enter Tryz.func20, Tryz.ntmps20
  go_wp2_with (first | ((with_reducible refine gate_dst (N := 1) rfl ?_); refine box_event ?hg (N := 1) ?hd (cs := #[.slice A0_0 l0_0.length c0_0, .slice A0_1 l0_1.length c0_1]) (t := 25) ?hr ?_; (case hd => rfl); (case hg => rfl); (case hr => first | (go_simp; done) | (go_simp; rfl)); intro gb316 hg w3 hbox hb; have n0_ := Aside0.mk (Kd.V_below (Kd.V_elderB (by (with_reducible repeat (first | apply Kd.V_alloc | apply Kd.V_drewN | apply Kd.V_drew)); exact HO0_1.out) gb316 (Nat.le_of_eq hg.symm)) hb); have n1_ := Aside0.mk (below_step zx25_1 hb); have n2_ := Aside0.mk (hbox); have n3_ := Aside0.mk ((by rw [hg]; exact (below_size zx25_1) : w.heap.size ≤ gb316)); have n4_ := Aside0.mk ((by rw [hg]; exact (below_size zx25_1) : w.heap.size ≤ gb316)); clear HO0_1; clear HB; have HO0_1 := n0_; have HB := n1_; have BK316 := n2_; have GW316 := n3_; have GE316 := n4_; clear n0_ n1_ n2_ n3_ n4_; clear hb hbox hg) | ((with_reducible refine gate_dst (N := 2) rfl ?_); refine box_event ?hg (N := 2) ?hd (cs := #[.slice none 0 0, .slice none 0 0]) (t := 25) ?hr ?_; (case hd => rfl); (case hg => rfl); (case hr => first | (go_simp; done) | (go_simp; rfl)); intro gb317 hg w4 hbox hb; have n0_ := Aside0.mk (Kd.V_below (Kd.V_elderB (by (with_reducible repeat (first | apply Kd.V_alloc | apply Kd.V_drewN | apply Kd.V_drew)); exact HO0_1.out) gb317 (Nat.le_of_eq hg.symm)) hb); have n1_ := Aside0.mk (blk_below (g := gb316) (o := .cells #[.slice A0_0 l0_0.length c0_0, .slice A0_1 l0_1.length c0_1] 25 (0, 0)) zx25_3 hb); have n2_ := Aside0.mk (below_step zx25_4 hb); have n3_ := Aside0.mk (hbox); have n4_ := Aside0.mk ((by rw [hg]; exact (below_size zx25_4) : w.heap.size ≤ gb317)); have n5_ := Aside0.mk ((by rw [hg]; exact (below_size zx25_4) : w.heap.size ≤ gb317)); have n6_ := Aside0.mk ((by rw [hg]; exact Nat.ne_of_lt (blk_lt (g := gb316) (o := .cells #[.slice A0_0 l0_0.length c0_0, .slice A0_1 l0_1.length c0_1] 25 (0, 0)) zx25_3) : gb316 ≠ gb317)); have n7_ := Aside0.mk ((by rw [hg]; exact Nat.ne_of_gt (blk_lt (g := gb316) (o := .cells #[.slice A0_0 l0_0.length c0_0, .slice A0_1 l0_1.length c0_1] 25 (0, 0)) zx25_3) : gb317 ≠ gb316)); clear HO0_1; clear BK316; clear HB; have HO0_1 := n0_; have BK316 := n1_; have HB := n2_; have BK317 := n3_; have GW317 := n4_; have GE317 := n5_; have NB316_317 := n6_; have NB317_316 := n7_; clear n0_ n1_ n2_ n3_ n4_ n5_ n6_ n7_; clear hb hbox hg; have hnb5 := NB316_317.out; have hnc5 := NB317_316.out; have hcz6_0 : w4.cell? ⟨gb316, 0, none⟩ = some (.slice A0_0 l0_0.length c0_0) := (blk_cell BK316.out 0).trans rfl; have hcz6_1 : w4.cell? ⟨gb316, 1, none⟩ = some (.slice A0_1 l0_1.length c0_1) := (blk_cell BK316.out 1).trans rfl; have hfz6_0 := blk_frozen BK316.out 0; have hfz6_1 := blk_frozen BK316.out 1) | ((with_reducible refine gate_callee (f := 29) rfl ?_); refine goesL_ (some 8) rfl rfl Tryz.func29 (by kernel_rfl) rfl #[.slice A0_0 l0_0.length c0_0] rfl (by (try simp only [List.map_toArray, List.map_cons, List.map_nil]); first | done | rfl | (simp only [List.length_drop, List.length_take]; rfl)) ?_; (with_reducible refine (postroomref3_Canon.calls k _ _ l0_0 t318 t319 _ ?side1 ?side2 A2.out).mono ?_); (case side1 => repeat (first | exact (Kd.C_below HR0_0.out HB.out) | (with_reducible refine Kd.C_alloc ?_ _) | (with_reducible refine Kd.C_drewN ?_ _) | (with_reducible refine Kd.C_drew ?_))); (case side2 => exact HC0_0.out); rintro e w7 ⟨v320, rfl, ho0, hb⟩; refine ⟨_, rfl, ?_⟩; have n0_ := Aside0.mk (Kd.V_elder' (by (with_reducible repeat (first | apply Kd.V_alloc | apply Kd.V_drewN | apply Kd.V_drew)); exact HO0_1.out) (Kd.R_base ho0) hb); have n1_ := Aside0.mk (Kd.R_lower (Kd.R_newM (M := fun k_ => (w.heap.size ≤ k_)) ho0 (below_size zx25_2) (fun k_ h_ => h_)) (below_size zx25_2)); have n2_ := Aside0.mk (blk_below (g := gb316) (o := .cells #[.slice A0_0 l0_0.length c0_0, .slice A0_1 l0_1.length c0_1] 25 (0, 0)) zx25_3 hb); have n3_ := Aside0.mk (blk_below (g := gb317) (o := .cells #[.slice none 0 0, .slice none 0 0] 25 (0, 0)) (by (with_reducible repeat (first | refine blk_drewN ?_ _ | refine blk_drew ?_ | refine blk_alloc ?_ _)); exact BK317.out) hb); have n4_ := Aside0.mk (below_step zx25_2 hb); clear HO0_1; clear BK316; clear BK317; clear HB; have HO0_1 := n0_; have HO321 := n1_; have BK316 := n2_; have BK317 := n3_; have HB := n4_; clear n0_ n1_ n2_ n3_ n4_; (try clear hb); (try clear hb2); (try clear hk); (try clear hi); (try clear ho0); have hcz8_0 : w7.cell? ⟨gb316, 0, none⟩ = some (.slice A0_0 l0_0.length c0_0) := (blk_cell BK316.out 0).trans rfl; have hcz8_1 : w7.cell? ⟨gb316, 1, none⟩ = some (.slice A0_1 l0_1.length c0_1) := (blk_cell BK316.out 1).trans rfl; have hfz8_0 := blk_frozen BK316.out 0; have hfz8_1 := blk_frozen BK316.out 1; obtain ⟨Ao9, co9, eo9⟩ := Kd.R_slice HO321.out; subst eo9; have hcz10_0 : w7.cell? ⟨gb317, 0, none⟩ = some (.slice none 0 0) := (blk_cell BK317.out 0).trans rfl; have hcz10_1 : w7.cell? ⟨gb317, 1, none⟩ = some (.slice none 0 0) := (blk_cell BK317.out 1).trans rfl; have hfz10_0 := blk_frozen BK317.out 0; have hfz10_1 := blk_frozen BK317.out 1))
  refine bodyPost_ret (results_cell_row rfl _ _ gb317 25 #[.slice Ao9 t318.length co9, .slice A0_1 l0_1.length c0_1] (0, 0) _ rfl (by (with_reducible repeat (first | refine blk_drewN ?_ _ | refine blk_drew ?_ | refine blk_alloc ?_ _)); refine blk_put (cs := #[.slice Ao9 t318.length co9, .slice none 0 0]) ?_ 1 _ rfl; (with_reducible repeat (first | refine blk_drewN ?_ _ | refine blk_drew ?_ | refine blk_alloc ?_ _)); refine blk_put (cs := #[.slice none 0 0, .slice none 0 0]) ?_ 0 _ rfl; (with_reducible repeat (first | refine blk_drewN ?_ _ | refine blk_drew ?_ | refine blk_alloc ?_ _)); exact BK317.out) Tryz.underlying25 rfl (by kernel_rfl)) rfl ?_
  exact ⟨_, _, by first | rfl | (simp [errW_none, errW_some] <;> rfl) | (simp [*, errW_none, errW_some] <;> rfl), by (with_reducible repeat (first | apply Kd.R_alloc | apply Kd.R_drewN | apply Kd.R_drew)); exact Kd.R_mono (Kd.R_far (p := ⟨gb317, 1, none⟩) (Kd.R_far (p := ⟨gb317, 0, none⟩) (Kd.R_types HO321.out BK317.out (by decide)) (fun _ hk => hk.2) (.slice Ao9 t318.length co9)) (fun _ hk => hk.2) (.slice A0_1 l0_1.length c0_1)) (fun _ hk => hk.1.1), by (with_reducible repeat (first | apply Kd.V_alloc | apply Kd.V_drewN | apply Kd.V_drew)); exact Kd.V_mono (Kd.V_far (p := ⟨gb317, 1, none⟩) (Kd.V_far (p := ⟨gb317, 0, none⟩) (Kd.V_mono HO0_1.out (fun k_ hk => (⟨hk, hk.1.2⟩ : _ ∧ k_ ≠ gb317))) (fun _ hk => hk.2) (.slice Ao9 t318.length co9)) (fun _ hk => hk.2) (.slice A0_1 l0_1.length c0_1)) (fun _ hk => ⟨hk.1.1.1.1, hk.1.2⟩), by repeat (first | (with_reducible first | exact HB.out | apply below_alloc | apply pw_below_drewN | apply below_drew1 | refine below_set ?_ GE316.out | refine below_set ?_ GE317.out) | exact HB.out)⟩

end Go.Proofs.YthaegbiblblccaaGreatDoor.XEnt
end
