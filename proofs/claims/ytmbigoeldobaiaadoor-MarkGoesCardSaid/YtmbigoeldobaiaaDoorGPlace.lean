/- ledger.place of the given program: the place of a destination by its name. Conditions: those that each theorem names. -/
import Derived.Test.YtmbigoeldobaiaaDoorXMrkP1
import Derived.Test.YtmbigoeldobaiaaDoorNumLib
namespace Go.Proofs.YtmbigoeldobaiaaDoor.XMrk
open Go Go.RowKit Go.Proofs.YtmbigoeldobaiaaDoorW.PrintWords Go.Proofs.YtmbigoeldobaiaaDoorW.PrintLast Go.Proofs.YtmbigoeldobaiaaDoorW.PrintMore Go.Proofs.YtmbigoeldobaiaaDoor.Num
set_option linter.unusedVariables false
set_option linter.unusedSimpArgs false
abbrev D := S55
def plN : List D → ByteArray → Nat
 | [], _ => 0
 | x :: l, n => if x.f0.toList = n.toList then 0 else plN l n + 1
theorem pl_le : ∀ (l : List D) (n : ByteArray), plN l n ≤ l.length
 | [], _ => Nat.le_refl _
 | x :: l, n => by
  unfold plN; split
  ·exact Nat.zero_le _
  ·have := pl_le l n; rw [List.length_cons]; omega
theorem pl_at : ∀ (l : List D) (n : ByteArray) (h : plN l n < l.length), (l[plN l n]'h).f0.toList = n.toList
 | [], _, h => by simp at h
 | x :: l, n, h => by
  by_cases c : x.f0.toList = n.toList
  ·have e : plN (x :: l) n = 0 := by unfold plN; rw [if_pos c]
   simp only [e]
   exact c
  ·have e : plN (x :: l) n = plN l n + 1 := by rw [plN, if_neg c]
   have h2 : plN l n < l.length := by rw [e, List.length_cons] at h; omega
   simp only [e]
   exact pl_at l n h2
theorem pl_lt : ∀ (l : List D) (n : ByteArray) (j : Nat) (h : j < plN l n), ∀ h2 : j < l.length, (l[j]'h2).f0.toList ≠ n.toList
 | [], _, _, _, h2 => by simp at h2
 | x :: l, n, j, h, h2 => by
  by_cases c : x.f0.toList = n.toList
  ·have e : plN (x :: l) n = 0 := by unfold plN; rw [if_pos c]
   omega
  ·have e : plN (x :: l) n = plN l n + 1 := by rw [plN, if_neg c]
   match j, h, h2 with
   | 0, _, _ => exact c
   | j + 1, h, h2 => exact pl_lt l n j (by omega) (by simpa using h2)
def plI (l : List D) (n : ByteArray) : Int := if plN l n < l.length then (plN l n : Int) else -1
theorem plI_pos {l : List D} {n : ByteArray} (h : plN l n < l.length) : plI l n = (plN l n : Int) := if_pos h
theorem plI_neg {l : List D} {n : ByteArray} (h : ¬ plN l n < l.length) : plI l n = -1 := if_neg h
def ledger_place.f (l0 : List D) (a1 : ByteArray) : Option Int := some (plI l0 a1)

theorem place1.calls (x : D) (A3 : Option Addr) (c3 : Nat) (m : ByteArray) (B : Nat) (w : World) (hB : w.cell? ⟨B, 0, none⟩ = some (.string m)) (hlt : B < w.heap.size) :
  Calls Tryd.prog 50 #[.agg #[.string x.f0, .int .u64 x.f1, .int .u64 x.f2, .slice A3 x.f3.length c3, .int .u64 x.f4, .int .u64 x.f5, .int .u64 x.f6], .pointer (some ⟨B, 0, none⟩)] w fun e w' => e = .returned (.bool (x.f0.toList == m.toList)) ∧ Below w.heap.size w w' := by
 have hB2 : ∀ o, (w.alloc o).cell? ⟨B, 0, none⟩ = some (.string m) := fun o => (World.cell?_alloc_past o B 0 hlt).trans hB
 go_enter Tryd.func50, Tryd.ntmps50
 go_wp2
 go_ret
 exact ⟨rfl, below_alloc (Below.refl _ _) _⟩

set_option maxHeartbeats 8000000 in
set_option maxRecDepth 100000 in
theorem indexD.calls (l : List D) (n : ByteArray) (A : Option Addr) (c B : Nat) (w : World) (hr : Kd.C k55 w A l.length l) (hc : l.length ≤ c) (hB : w.cell? ⟨B, 0, none⟩ = some (.string n)) (hlt : B < w.heap.size) :
  Calls Tryd.prog 49 #[.slice A l.length c, .func (.func 50) #[] #[.pointer (some ⟨B, 0, none⟩)]] w fun e w' => e = .returned (.int .i64 (plI l n)) ∧ Below w.heap.size w w' := by
 have hmax := Kd.C_max hr
 have hfl := Aside0.mk (pl_le l n)
 have HR := Aside0.mk hr
 have HC := Aside0.mk hc
 have HBB := Aside0.mk hB
 clear hr hc hB
 go_enter Tryd.func49, Tryd.ntmps49
 go_wp2
 go_loopg [8] l.length (fun kq v8 wr => ∃ j : Nat, Aside0 (j + kq = l.length) ∧ v8 = .int .i64 (j : Int) ∧ Aside0 (j ≤ plN l n) ∧ Aside0 (Below w.heap.size w wr))
 case atStart => exact ⟨0, ⟨by omega⟩, rfl, ⟨Nat.zero_le _⟩, ⟨Below.refl _ _⟩⟩
 case round =>
  obtain ⟨j, hj, rfl, hjf, HB⟩ := hrel
  by_cases hjl : j < l.length
  ·have c0 : decide ((j : Int) < (l.length : Int)) = true := decide_eq_true (by omega)
   have p0 : (0 : Int) ≤ (j : Int) := by omega
   have p1 : (j : Int) < (l.length : Int) := by omega
   obtain ⟨ad, A3, c3, e0, hx0, hx1, hx2, hx3, hx4, hx5, hx6, hx7, hx8⟩ := at_T55 (Kd.C_below HR.out HB.out) (j : Int) p0 p1
   have hrd : rd_T55 l (j : Int) = l[j] := by
    unfold rd_T55
    rw [Int.toNat_natCast, List.getD_eq_getElem?_getD, List.getElem?_eq_getElem hjl]; rfl
   rw [hrd, Int.toNat_natCast] at hx0 hx1 hx2 hx3 hx4 hx5 hx6
   clear hx7 hx8
   cases e0
   have hlj : ∀ h2 : j < l.length, l[j]'h2 = l[j] := fun _ => rfl
   have HF1 := Aside0.mk (fun h : j = plN l n => show (l[j].f0.toList == n.toList) = true by
    rw [beq_iff_eq]
    have h3 := pl_at l n (by rw [← h]; exact hjl)
    simp only [← h] at h3
    exact h3)
   have HF2 := Aside0.mk (fun h : j < plN l n => show (l[j].f0.toList == n.toList) = false by
    rw [beq_eq_false_iff_ne]; exact pl_lt l n j h hjl)
   clear hrd hlj
   generalize l[j] = x at hx0 hx1 hx2 hx3 hx4 hx5 hx6 HF1 HF2
   replace p0 := eq_true p0
   replace p1 := eq_true p1
   have hBr := Aside0.mk ((HB.out.cell (p := ⟨B, 0, none⟩) hlt).trans HBB.out)
   have hlr := Aside0.mk (Nat.lt_of_lt_of_le hlt HB.out.size)
   rcases Nat.lt_or_eq_of_le hjf.out with hf | hf
   ·have hfn := HF2.out hf
    have HF := Aside0.mk hf
    clear hf
    go_wp2_with (go_at_call 50; refine (place1.calls x A3 c3 n B _ hBr.out hlr.out).mono ?_; rintro e w' ⟨rfl, hb⟩)
    go_roundg (l.length - j - 1)
    case measure => have := hj.out; omega
    case rel => exact ⟨j + 1, ⟨by have := hj.out; omega⟩, rfl, ⟨HF.out⟩, ⟨HB.out.trans (hb.mono HB.out.size)⟩⟩
   ·have hfn := HF1.out hf
    have HF := Aside0.mk hf
    clear hf
    go_wp2_with (go_at_call 50; refine (place1.calls x A3 c3 n B _ hBr.out hlr.out).mono ?_; rintro e w' ⟨rfl, hb⟩)
    go_ret
    exact ⟨by rw [plI_pos (by rw [← HF.out]; exact hjl), ← HF.out]; rfl, HB.out.trans (hb.mono HB.out.size)⟩
  ·have c0 : decide ((j : Int) < (l.length : Int)) = false := decide_eq_false (by omega)
   have HF := Aside0.mk (show ¬ plN l n < l.length by have := hjf.out; omega)
   go_wp2
   go_ret
   exact ⟨by rw [plI_neg HF.out]; rfl, HB.out⟩

set_option maxHeartbeats 8000000 in
set_option maxRecDepth 100000 in
theorem ledger_place.calls (A0 : Option Addr) (c0 : Nat) (l0 : List D) (a1 : ByteArray) (r : Int) (w : World) (hr0 : Kd.C k55 w A0 l0.length l0) (hc0 : l0.length ≤ c0) (h : ledger_place.f l0 a1 = some r) :
  Calls Tryd.prog 32 #[.slice A0 l0.length c0, .string a1] w fun e w' => e = .returned (.int .i64 r) ∧ Below w.heap.size w w' := by
 obtain rfl := Option.some.inj h
 clear h
 have HR := Aside0.mk hr0
 have HC := Aside0.mk hc0
 clear hr0 hc0
 have hb1 := Aside0.mk (below_alloc (Below.refl w.heap.size w) (.cells #[.string a1] 9))
 have hcell := Aside0.mk (show (w.alloc (.cells #[.string a1] 9)).cell? ⟨w.heap.size, 0, none⟩ = some (.string a1) by rw [World.cell?_alloc_new]; rfl)
 have hlt := Aside0.mk (show w.heap.size < (w.alloc (.cells #[.string a1] 9)).heap.size by simp)
 go_enter Tryd.func32, Tryd.ntmps32
 go_wp2_with (go_at_call 49; refine (indexD.calls l0 a1 A0 c0 w.heap.size _ (Kd.C_below HR.out hb1.out) HC.out hcell.out hlt.out).mono ?_; rintro e w' ⟨rfl, hb⟩)
 go_ret
 exact ⟨rfl, hb1.out.trans (hb.mono (by simp))⟩
end Go.Proofs.YtmbigoeldobaiaaDoor.XMrk
