/- label.Match of the given program: no matcher is against the labels. Conditions: the labels and the matchers lie in memory. -/
import Derived.Test.YthaegbiblblccaaGreatDoorXEntP1
import Derived.Test.YthaegbiblblccaaGreatDoorXEntP2
import Derived.Test.YthaegbiblblccaaGreatDoorNumLib
import Derived.Test.YthaegbiblblccaaGreatDoorGLabelFind
import Derived.Deep.RegionHeld3
import Derived.Deep.LoopGhost
import Derived.Lib.Hide
namespace Go.Proofs.YthaegbiblblccaaGreatDoor.XEnt
open Go Go.RowKit Go.Proofs.YthaegbiblblccaaGreatDoorW.PrintWords Go.Proofs.YthaegbiblblccaaGreatDoorW.PrintLast Go.Proofs.YthaegbiblblccaaGreatDoorW.PrintMore Go.Proofs.YthaegbiblblccaaGreatDoor.Num
set_option linter.unusedVariables false
set_option linter.unusedSimpArgs false
abbrev MM := S43
def valL (l : List P) (n : ByteArray) : ByteArray := if findN l n < l.length then (rd_T52 l (findN l n : Int)).f1 else ⟨#[]⟩
theorem value_f (l : List P) (n : ByteArray) : label_Value.f l n = some (valL l n) := by
  unfold label_Value.f label_find.f valL
  rw [bsome]
  by_cases h : findN l n < l.length
  · rw [findI_pos h, if_pos h, if_pos (by omega), if_pos (by omega), if_pos (by omega)]
  · rw [findI_neg h, if_neg h, if_neg (by omega)]
def against (l : List P) (x : MM) : Bool := ((valL l x.f0).toList == x.f1.toList) == x.f2
def label_Match.f (l0 : List MM) (l1 : List P) : Option Bool := some (!(l0.any (against l1)))
def ixM (l : List P) (ms : List MM) : Int := if ms.findIdx (against l) < ms.length then (ms.findIdx (against l) : Int) else -1
theorem ixM_pos {l : List P} {ms : List MM} (h : ms.findIdx (against l) < ms.length) : ixM l ms = (ms.findIdx (against l) : Int) := if_pos h
theorem ixM_neg {l : List P} {ms : List MM} (h : ¬ ms.findIdx (against l) < ms.length) : ixM l ms = -1 := if_neg h
theorem ixM_any (l : List P) (ms : List MM) : decide (ixM l ms ≥ 0) = ms.any (against l) := by
  unfold ixM
  have e : ms.any (against l) = decide (ms.findIdx (against l) < ms.length) := by
    rw [Bool.eq_iff_iff, List.any_eq_true, decide_eq_true_eq, List.findIdx_lt_length]
  rw [e]
  by_cases h : ms.findIdx (against l) < ms.length
  · rw [if_pos h, decide_eq_true h]; exact decide_eq_true (by omega)
  · rw [if_neg h, decide_eq_false h]; rfl

set_option maxHeartbeats 4000000 in
set_option maxRecDepth 100000 in
theorem match1.calls (x : MM) (l : List P) (A : Option Addr) (c B : Nat) (w : World) (hr : Kd.C k52 w A l.length l) (hc : l.length ≤ c) (hB : w.cell? ⟨B, 0, none⟩ = some (.slice A l.length c)) (hlt : B < w.heap.size) :
    Calls Tryz.prog 61 #[.agg #[.string x.f0, .string x.f1, .bool x.f2], .pointer (some ⟨B, 0, none⟩)] w fun e w' => e = .returned (.bool (against l x)) ∧ Below w.heap.size w w' := by
  have hv := fun W (hb : Below w.heap.size w W) => label_Value.calls A c l x.f0 (valL l x.f0) W (Kd.C_below hr hb) hc (value_f _ _)
  unfold against
  generalize valL l x.f0 = v at hv ⊢
  clear hr
  have hb1 := below_alloc (Below.refl w.heap.size w) (.cells #[.string x.f0, .string x.f1, .bool x.f2] 43)
  have hx0 : (w.alloc (.cells #[.string x.f0, .string x.f1, .bool x.f2] 43)).cell? ⟨w.heap.size, 0, none⟩ = some (.string x.f0) := World.cell?_alloc_new _ _ _ _
  have hx1 : (w.alloc (.cells #[.string x.f0, .string x.f1, .bool x.f2] 43)).cell? ⟨w.heap.size, 1, none⟩ = some (.string x.f1) := World.cell?_alloc_new _ _ _ _
  have hx2 : (w.alloc (.cells #[.string x.f0, .string x.f1, .bool x.f2] 43)).cell? ⟨w.heap.size, 2, none⟩ = some (.bool x.f2) := World.cell?_alloc_new _ _ _ _
  have hz : (w.alloc (.cells #[.string x.f0, .string x.f1, .bool x.f2] 43)).heap.size = w.heap.size + 1 := World.size_alloc _ _
  go_enter Tryz.func61, Tryz.ntmps61
  go_wp2
  generalize (w.alloc (.cells #[.string x.f0, .string x.f1, .bool x.f2] 43)) = W0 at hb1 hx0 hx1 hx2 hz ⊢
  have HF := Aside0.mk (fun W (h : Below W0.heap.size W0 W) => show W.cell? ⟨B, 0, none⟩ = some (.slice A l.length c) ∧ W.cell? ⟨w.heap.size, 0, none⟩ = some (.string x.f0) ∧ W.cell? ⟨w.heap.size, 1, none⟩ = some (.string x.f1) ∧ W.cell? ⟨w.heap.size, 2, none⟩ = some (.bool x.f2) from
    ⟨(h.cell (p := ⟨B, 0, none⟩) (by show B < _; omega)).trans ((hb1.cell (p := ⟨B, 0, none⟩) hlt).trans hB), (h.cell (p := ⟨w.heap.size, 0, none⟩) (by show w.heap.size < _; omega)).trans hx0, (h.cell (p := ⟨w.heap.size, 1, none⟩) (by show w.heap.size < _; omega)).trans hx1, (h.cell (p := ⟨w.heap.size, 2, none⟩) (by show w.heap.size < _; omega)).trans hx2⟩)
  have HV := Aside0.mk (fun W (h : Below W0.heap.size W0 W) => hv W (hb1.trans (h.mono hb1.size)))
  have HB1 := Aside0.mk hb1
  have hI : Below W0.heap.size W0 W0 := Below.refl _ _
  generalize w.heap.size = s at HF ⊢
  clear hx0 hx1 hx2 hz hb1 hv hB hlt
  go_region_held3 (fun W => W.cell? ⟨B, 0, none⟩ = some (.slice A l.length c) ∧ W.cell? ⟨s, 0, none⟩ = some (.string x.f0) ∧ W.cell? ⟨s, 1, none⟩ = some (.string x.f1) ∧ W.cell? ⟨s, 2, none⟩ = some (.bool x.f2))
    (exact HF.out _ (by repeat (first | exact hI | apply below_drew)))
    (first | (go_at_call 62; refine (HV.out _ (by first | exact hI | exact below_drew hI)).mono ?_; rintro e w2 ⟨rfl, hb2⟩; have n0_ := below_step (by first | exact hI | exact below_drew hI) hb2; clear hI hb2; have hI := n0_; clear n0_))
  go_wp2
  go_ret
  exact ⟨rfl, HB1.out.trans (by first | exact hI.mono HB1.out.size | exact (below_drew hI).mono HB1.out.size)⟩

set_option maxHeartbeats 8000000 in
set_option maxRecDepth 100000 in
theorem indexM.calls (ms : List MM) (l : List P) (A0 : Option Addr) (c0 : Nat) (A : Option Addr) (c B : Nat) (w : World) (hm : Kd.C k43 w A0 ms.length ms) (hmc : ms.length ≤ c0) (hr : Kd.C k52 w A l.length l) (hc : l.length ≤ c) (hB : w.cell? ⟨B, 0, none⟩ = some (.slice A l.length c)) (hlt : B < w.heap.size) :
    Calls Tryz.prog 76 #[.slice A0 ms.length c0, .func (.func 61) #[] #[.pointer (some ⟨B, 0, none⟩)]] w fun e w' => e = .returned (.int .i64 (ixM l ms)) ∧ Below w.heap.size w w' := by
  have hmax := Kd.C_max hm
  have hfl := Aside0.mk (List.findIdx_le_length (p := against l) (xs := ms))
  have HM := Aside0.mk hm
  have HMC := Aside0.mk hmc
  have HR := Aside0.mk hr
  have HC := Aside0.mk hc
  have HBB := Aside0.mk hB
  clear hm hmc hr hc hB
  go_enter Tryz.func76, Tryz.ntmps76
  go_wp2
  go_loopg [8] ms.length (fun kq v8 wr => ∃ j : Nat, Aside0 (j + kq = ms.length) ∧ v8 = .int .i64 (j : Int) ∧ Aside0 (j ≤ ms.findIdx (against l)) ∧ Aside0 (Below w.heap.size w wr))
  case atStart => exact ⟨0, ⟨by omega⟩, rfl, ⟨Nat.zero_le _⟩, ⟨Below.refl _ _⟩⟩
  case round =>
    obtain ⟨j, hj, rfl, hjf, HB⟩ := hrel
    by_cases hjl : j < ms.length
    · have c0 : decide ((j : Int) < (ms.length : Int)) = true := decide_eq_true (by omega)
      have p0 : (0 : Int) ≤ (j : Int) := by omega
      have p1 : (j : Int) < (ms.length : Int) := by omega
      obtain ⟨ad, e0, hx0, hx1, hx2⟩ := at_T43 (Kd.C_below HM.out HB.out) (j : Int) p0 p1
      have hrd : rd_T43 ms (j : Int) = ms[j] := by
        unfold rd_T43
        rw [Int.toNat_natCast, List.getD_eq_getElem?_getD, List.getElem?_eq_getElem hjl]; rfl
      rw [hrd, Int.toNat_natCast] at hx0 hx1 hx2
      cases e0
      have HF1 := Aside0.mk (fun h : j = ms.findIdx (against l) => show against l ms[j] = true by
        have h3 := List.findIdx_getElem (p := against l) (xs := ms) (w := by rw [← h]; exact hjl)
        simp only [← h] at h3
        exact h3)
      have HF2 := Aside0.mk (fun h : j < ms.findIdx (against l) => show against l ms[j] = false by
        have h3 := List.not_of_lt_findIdx h
        simpa using h3)
      clear hrd
      generalize ms[j] = x at hx0 hx1 hx2 HF1 HF2
      replace p0 := eq_true p0
      replace p1 := eq_true p1
      have HX := Aside0.mk (fun W (h : Below w.heap.size w W) => match1.calls x l A c B W (Kd.C_below HR.out h) HC.out ((h.cell (p := ⟨B, 0, none⟩) hlt).trans HBB.out) (Nat.lt_of_lt_of_le hlt h.size))
      rcases Nat.lt_or_eq_of_le hjf.out with hf | hf
      · have hfn := HF2.out hf
        have HF := Aside0.mk hf
        clear hf
        rw [hfn] at HX
        clear hfn
        go_wp2_with (go_at_call 61; refine (HX.out _ HB.out).mono ?_; rintro e w' ⟨rfl, hb⟩)
        go_roundg (ms.length - j - 1)
        case measure => have := hj.out; omega
        case rel => exact ⟨j + 1, ⟨by have := hj.out; omega⟩, rfl, ⟨HF.out⟩, ⟨HB.out.trans (hb.mono HB.out.size)⟩⟩
      · have hfn := HF1.out hf
        have HF := Aside0.mk hf
        clear hf
        rw [hfn] at HX
        clear hfn
        go_wp2_with (go_at_call 61; refine (HX.out _ HB.out).mono ?_; rintro e w' ⟨rfl, hb⟩)
        go_ret
        exact ⟨by rw [ixM_pos (by rw [← HF.out]; exact hjl), ← HF.out]; rfl, HB.out.trans (hb.mono HB.out.size)⟩
    · have c0 : decide ((j : Int) < (ms.length : Int)) = false := decide_eq_false (by omega)
      have HF := Aside0.mk (show ¬ ms.findIdx (against l) < ms.length by have := hjf.out; omega)
      go_wp2
      go_ret
      exact ⟨by rw [ixM_neg HF.out]; rfl, HB.out⟩
theorem containsM.calls (ms : List MM) (l : List P) (A0 : Option Addr) (c0 : Nat) (A : Option Addr) (c B : Nat) (w : World) (hm : Kd.C k43 w A0 ms.length ms) (hmc : ms.length ≤ c0) (hr : Kd.C k52 w A l.length l) (hc : l.length ≤ c) (hB : w.cell? ⟨B, 0, none⟩ = some (.slice A l.length c)) (hlt : B < w.heap.size) :
    Calls Tryz.prog 60 #[.slice A0 ms.length c0, .func (.func 61) #[] #[.pointer (some ⟨B, 0, none⟩)]] w fun e w' => e = .returned (.bool (ms.any (against l))) ∧ Below w.heap.size w w' := by
  have H1 := indexM.calls ms l A0 c0 A c B w hm hmc hr hc hB hlt
  rw [← ixM_any]
  clear hm hmc hr hc hB
  generalize ixM l ms = i at H1 ⊢
  go_enter Tryz.func60, Tryz.ntmps60
  go_wp2_with (go_at_call 76; refine H1.mono ?_; rintro e w' ⟨rfl, hb⟩)
  go_ret
  exact ⟨rfl, hb⟩
set_option maxRecDepth 100000 in
theorem label_Match.calls (A0 : Option Addr) (c0 : Nat) (l0 : List MM) (A1 : Option Addr) (c1 : Nat) (l1 : List P) (r : Bool) (w : World) (hr0 : Kd.C k43 w A0 l0.length l0) (hc0 : l0.length ≤ c0) (hr1 : Kd.C k52 w A1 l1.length l1) (hc1 : l1.length ≤ c1) (h : label_Match.f l0 l1 = some r) :
    Calls Tryz.prog 37 #[.slice A0 l0.length c0, .slice A1 l1.length c1] w fun e w' => e = .returned (.bool r) ∧ Below w.heap.size w w' := by
  obtain rfl := Option.some.inj h
  clear h
  obtain ⟨W1, hW1⟩ : ∃ W1, w.alloc (.cells #[.slice A1 l1.length c1] 22) = W1 := ⟨_, rfl⟩
  have b1 : Below w.heap.size w W1 := by rw [← hW1]; exact below_alloc (Below.refl _ _) _
  have e1 : W1.cell? ⟨w.heap.size, 0, none⟩ = some (.slice A1 l1.length c1) := by rw [← hW1]; exact World.cell?_alloc_new _ _ _ _
  have H1 := containsM.calls l0 l1 A0 c0 A1 c1 w.heap.size W1 (Kd.C_below hr0 b1) hc0 (Kd.C_below hr1 b1) hc1 e1 (by rw [← hW1, World.size_alloc]; omega)
  generalize l0.any (against l1) = r at H1 ⊢
  clear hr0 hr1 e1
  go_enter Tryz.func37, Tryz.ntmps37
  go_wp2_with ((try rw [hW1]); go_at_call 60; refine H1.mono ?_; rintro e w' ⟨rfl, hb⟩)
  go_ret
  exact ⟨rfl, b1.trans (hb.mono b1.size)⟩
end Go.Proofs.YthaegbiblblccaaGreatDoor.XEnt
