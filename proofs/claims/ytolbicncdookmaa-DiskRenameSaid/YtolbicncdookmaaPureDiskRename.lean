/- DiskRename: its walk. Conditions: lengths of 64 bits. -/
import Derived.Test.YtolbicncdookmaaDskRen

namespace Go.Proofs.Ytolbicncdookmaa.XDsk
open Go Go.RowKit Go.Maps Go.Sort Go.Shelf Go.Proofs.YtolbicncdookmaaW.PrintWords Go.Proofs.YtolbicncdookmaaW.PrintLast Go.Proofs.YtolbicncdookmaaW.PrintMore Go.Proofs.Ytolbicncdookmaa.Num
set_option linter.unusedVariables false
set_option linter.unusedSimpArgs false
def postroomlaw7_DiskRename.Pure : Prop := True
def RnI (w0 : World) (b g : Nat) (s t u : ByteArray) (S : PD) (W : World) : Prop :=
  Lot w0 [dsk w0.heap.size b S, blkT g #[.string nA, .string nB, .string nC] 9, blkT (g + 1) #[.string s, .string t, .string u] 9] W
variable {w0 W W' : World} {b g k : Nat} {s t u nm tx : ByteArray} {S : PD}
theorem RnI.drew (h : RnI w0 b g s t u S W) : RnI w0 b g s t u S W.drew := Lot.drew h
theorem RnI.cells (h : RnI w0 b g s t u S W) (hk : k < 3) (hn : nm3 k = nm) (ht : tx3 s t u k = tx) : W.cell? ⟨g, k, none⟩ = some (.string nm) ∧ W.cell? ⟨g + 1, k, none⟩ = some (.string tx) := by
  subst hn ht
  have h1 := Lot.blk (i := 1) h rfl
  have h2 := Lot.blk (i := 2) h rfl
  match k, hk with
  | 0, _ => exact ⟨(blk_cell h1 0).trans rfl, (blk_cell h2 0).trans rfl⟩
  | 1, _ => exact ⟨(blk_cell h1 1).trans rfl, (blk_cell h2 1).trans rfl⟩
  | 2, _ => exact ⟨(blk_cell h1 2).trans rfl, (blk_cell h2 2).trans rfl⟩
theorem rn_create (h : RnI w0 b g s t u (r0 s t u k) W) (hs : s.size + t.size + u.size ≤ 1000) (hk : k < 3) (hn : nm3 k = nm) :
    Calls Try.prog 12 #[.pointer (some ⟨b, 0, none⟩), .string nm] W fun e w' => e = .returned (.int .i64 0) ∧ RnI w0 b g s t u (r1 s t u k) w' := by
  subst hn
  have := lot_create (i := 0) h rfl (r_good hs k (by omega)) (by omega) (nm3_size k)
  rw [(r_all s t u hs k hk).1] at this
  exact this
theorem rn_append (h : RnI w0 b g s t u (r1 s t u k) W) (hs : s.size + t.size + u.size ≤ 1000) (hk : k < 3) (hn : nm3 k = nm) (ht : tx3 s t u k = tx) :
    Calls Try.prog 13 #[.pointer (some ⟨b, 0, none⟩), .string nm, .string tx] W fun e w' => e = .returned (.int .i64 0) ∧ RnI w0 b g s t u (r2 s t u k) w' := by
  subst hn ht
  have := lot_append (i := 0) (s := tx3 s t u k) h rfl (r_good1 (r_good hs k (by omega))) (by omega) (nm3_size k) (by have := tx3_size hs k; omega)
  rw [(r_all s t u hs k hk).2.1] at this
  exact this
theorem rn_sync (h : RnI w0 b g s t u (r2 s t u k) W) (hs : s.size + t.size + u.size ≤ 1000) (hk : k < 3) (hn : nm3 k = nm) :
    Calls Try.prog 14 #[.pointer (some ⟨b, 0, none⟩), .string nm] W fun e w' => e = .returned (.int .i64 0) ∧ RnI w0 b g s t u (r0 s t u (k + 1)) w' := by
  subst hn
  have := lot_sync (i := 0) h rfl (r_good2 (r_good1 (r_good hs k (by omega)))) (by have := tx3_size hs k; omega) (nm3_size k)
  rw [(r_all s t u hs k hk).2.2.1, (r_all s t u hs k hk).2.2.2] at this
  exact this
abbrev ReadIs (b : Nat) (n : ByteArray) (W : World) (x : ByteArray) (c : Int) : Prop := Calls Try.prog 17 #[.pointer (some ⟨b, 0, none⟩), .string n] W fun e w' => e = .returned (.tuple #[.string x, .int .i64 c]) ∧ W = w'
theorem rn_syncDir (h : RnI w0 b g s t u (r0 s t u 3) W) (hs : s.size + t.size + u.size ≤ 1000) :
    Calls Try.prog 15 #[.pointer (some ⟨b, 0, none⟩)] W fun e w' => e = .returned (.int .i64 0) ∧ RnI w0 b g s t u (rE s t u) w' := by
  have := lot_syncDir (i := 0) h rfl (r_good hs 3 (by omega)) (by omega)
  rw [(rE_is s t u).1, (rE_is s t u).2] at this
  exact this
theorem rn_rename (h : RnI w0 b g s t u (rE s t u) W) (hs : s.size + t.size + u.size ≤ 1000) :
    Calls Try.prog 18 #[.pointer (some ⟨b, 0, none⟩), .string ⟨#[97]⟩, .string ⟨#[98]⟩] W fun e w' => e = .returned (.int .i64 0) ∧ RnI w0 b g s t u (rF s t u) w' := by
  have := lot_rename (i := 0) (name := nA) (dst := nB) h rfl (rE_good hs) (by omega) (by decide) (by decide)
  rw [(rF_is s t u).1, (rF_is s t u).2] at this
  exact this
theorem rn_used (h : RnI w0 b g s t u (rF s t u) W) (hs : s.size + t.size + u.size ≤ 1000) :
    Calls Try.prog 19 #[.pointer (some ⟨b, 0, none⟩)] W fun e w' => e = .returned (.int .i64 ((s.size : Int) + (u.size : Int))) ∧ RnI w0 b g s t u (rF s t u) w' := by
  have := lot_used (i := 0) h rfl (rF_good hs) (by omega)
  rw [(rF_reads s t u).2.2.2] at this
  exact this
def RnC (w0 : World) (b g b2 : Nat) (s t u : ByteArray) (dir : Int) (ks : List Int) (W : World) : Prop :=
  Lot w0 [dsk w0.heap.size b (rF s t u), blkT g #[.string nA, .string nB, .string nC] 9, blkT (g + 1) #[.string s, .string t, .string u] 9, dsk w0.heap.size b2 (crashD (rF s t u) dir ks)] W
theorem RnI.low (h : RnI w0 b g s t u S W) : Below w0.heap.size w0 W := Lot.low h
theorem RnC.low {b2 : Nat} {dir : Int} {ks : List Int} (h : RnC w0 b g b2 s t u dir ks W) : Below w0.heap.size w0 W := Lot.low h
theorem rn_crash {A : Option Addr} {cp : Nat} {dir : Int} {ks : List Int} (h : RnI w0 b g s t u (rF s t u) W) (hs : s.size + t.size + u.size ≤ 1000) (hA : Kd.C (Kd.int .i64) W A ks.length ks) (hk : ks.length ≤ cp) (hw : ∀ x ∈ ks, (Lit.int .i64 x).wf = true) :
    Calls Try.prog 16 #[.pointer (some ⟨b, 0, none⟩), .agg #[.int .i64 dir, .slice A ks.length cp]] W fun e w' => ∃ b2, e = .returned (.pointer (some ⟨b2, 0, none⟩)) ∧ RnC w0 b g b2 s t u dir ks w' :=
  lot_crash (i := 0) h rfl (rF_good hs) (by omega) hA hk hw
theorem rn_reads (h : RnI w0 b g s t u (rF s t u) W) (hs : s.size + t.size + u.size ≤ 1000) : ReadIs b ⟨#[98]⟩ W s 0 ∧ ReadIs b ⟨#[99]⟩ W u 0 ∧ ReadIs b ⟨#[97]⟩ W ByteArray.empty 5 := by
  have hR := rF_reads s t u
  have h1 := lot_read (i := 0) (name := nB) h rfl (rF_good hs) (by omega) (by decide)
  have h2 := lot_read (i := 0) (name := nC) h rfl (rF_good hs) (by omega) (by decide)
  have h3 := lot_read (i := 0) (name := nA) h rfl (rF_good hs) (by omega) (by decide)
  rw [hR.1.1, hR.1.2] at h1
  rw [hR.2.1.1, hR.2.1.2] at h2
  rw [hR.2.2.1.1, hR.2.2.1.2] at h3
  exact ⟨h1, h2, h3⟩
theorem rn_reads1 {b2 : Nat} {dir : Int} {ks : List Int} (h : RnC w0 b g b2 s t u dir ks W) (hs : s.size + t.size + u.size ≤ 1000) (hd : dir < 1) : ReadIs b2 ⟨#[98]⟩ W t 0 ∧ ReadIs b2 ⟨#[99]⟩ W u 0 ∧ ReadIs b2 ⟨#[97]⟩ W s 0 := by
  have hR := rF_crash s t u hs dir ks
  have hR2 := hR.2.2.1 hd
  have h1 := lot_read (i := 3) (name := nB) h rfl ((rF_good hs).crashD _ _) (by omega) (by decide)
  have h2 := lot_read (i := 3) (name := nC) h rfl ((rF_good hs).crashD _ _) (by omega) (by decide)
  have h3 := lot_read (i := 3) (name := nA) h rfl ((rF_good hs).crashD _ _) (by omega) (by decide)
  rw [hR.2.1, hR2.2] at h1
  rw [hR.1.1, hR.1.2] at h2
  rw [hR2.1.1, hR2.1.2] at h3
  exact ⟨h1, h2, h3⟩
theorem rn_reads2 {b2 : Nat} {dir : Int} {ks : List Int} (h : RnC w0 b g b2 s t u dir ks W) (hs : s.size + t.size + u.size ≤ 1000) (hd : ¬ dir < 1) : ReadIs b2 ⟨#[98]⟩ W s 0 ∧ ReadIs b2 ⟨#[99]⟩ W u 0 ∧ ReadIs b2 ⟨#[97]⟩ W ByteArray.empty 5 := by
  have hR := rF_crash s t u hs dir ks
  have hR2 := hR.2.2.2 hd
  have h1 := lot_read (i := 3) (name := nB) h rfl ((rF_good hs).crashD _ _) (by omega) (by decide)
  have h2 := lot_read (i := 3) (name := nC) h rfl ((rF_good hs).crashD _ _) (by omega) (by decide)
  have h3 := lot_read (i := 3) (name := nA) h rfl ((rF_good hs).crashD _ _) (by omega) (by decide)
  rw [hR.2.1, hR2.2] at h1
  rw [hR.1.1, hR.1.2] at h2
  rw [hR2.1.1, hR2.1.2] at h3
  exact ⟨h1, h2, h3⟩
def BoxW (w : World) (dir : Int) (A : Option Addr) (n cp : Nat) : World := w.alloc (.cells #[.int .i64 dir, .slice A n cp] 33)
theorem box_cells {w : World} {dir : Int} {A : Option Addr} {n cp : Nat} (h : Below (BoxW w dir A n cp).heap.size (BoxW w dir A n cp) W) : W.cell? ⟨w.heap.size, 0, none⟩ = some (.int .i64 dir) ∧ W.cell? ⟨w.heap.size, 1, none⟩ = some (.slice A n cp) ∧ Below w.heap.size w W := by
  have h0 : (BoxW w dir A n cp).heap[w.heap.size]? = some (.cells #[.int .i64 dir, .slice A n cp] 33 (0, 0)) := blk_new w _
  have h1 : W.heap[w.heap.size]? = some (.cells #[.int .i64 dir, .slice A n cp] 33 (0, 0)) := (h.block _ (by unfold BoxW; simp)).trans h0
  exact ⟨(blk_cell h1 0).trans rfl, (blk_cell h1 1).trans rfl, below_step (below_alloc (Below.refl _ _) _) h⟩
set_option maxHeartbeats 8000000 in
set_option maxRecDepth 100000 in
theorem postroomlaw7_DiskRename.walk (P : postroomlaw7_DiskRename.Pure) (a0 a1 a2 : ByteArray) (dir : Int) (A : Option Addr) (cp : Nat) (ks : List Int) (w : World) (hr : Kd.C (Kd.int .i64) w A ks.length ks) (hc : ks.length ≤ cp) (hw0 : a0.size ≤ 140737488351232) (hw1 : a1.size ≤ 140737488351232) (hw2 : a2.size ≤ 140737488351232) (hd : (Lit.int .i64 dir).wf = true) (hm : ks.length ≤ maxLen) (hwk : ∀ x ∈ ks, (Lit.int .i64 x).wf = true) :
    Calls Try.prog 4 #[.string a0, .string a1, .string a2, .agg #[.int .i64 dir, .slice A ks.length cp]] w fun e w' => e = .returned (.bool true) ∧ Below w.heap.size w w' := by
  have HR := Lib.hid hr
  have HC := Lib.hid hc
  have HWK := Lib.hid hwk
  clear P hr hc hd hm hwk
  by_cases hs : a0.size + a1.size + a2.size ≤ 1000
  · have hb : (1000 < (a0.size : Int) + (a1.size : Int) + (a2.size : Int)) = False := eq_false (by omega)
    go_enter Try.func4, Try.ntmps4
    go_wp2_with (first
      | (go_at_call 10; refine (shown7_calls _).mono ?_; rintro e w1 ⟨rfl, hb1⟩; have HB1 := Lib.hid (show Below (BoxW w dir A ks.length cp).heap.size (BoxW w dir A ks.length cp) w1 from hb1); clear hb1)
      | (go_at_call 11; refine (lot_new (Lot.start HB1.out) _).mono ?_; rintro e w2 ⟨b, rfl, h2⟩; have H2 := Lib.hid h2; clear h2))
    have H7 := Lib.hid (show RnI (BoxW w dir A ks.length cp) b w2.heap.size a0 a1 a2 (r0 a0 a1 a2 0) ((w2.alloc (.cells #[.string nA, .string nB, .string nC] 9)).alloc (.cells #[.string a0, .string a1, .string a2] 9)) from by
      have h := (H2.out.alloc #[.string nA, .string nB, .string nC] 9).alloc #[.string a0, .string a1, .string a2] 9
      rw [show (w2.alloc (.cells #[.string nA, .string nB, .string nC] 9)).heap.size = w2.heap.size + 1 by simp] at h
      exact h)
    clear H2 hb
    obtain ⟨g, hg⟩ : ∃ g, w2.heap.size = g := ⟨_, rfl⟩
    rw [hg] at H7 ⊢
    go_loopw [13] (fun v13 W => ∃ (k : Nat), v13 = .int .i64 (k : Int) ∧ Aside0 (k ≤ 3 ∧ RnI (BoxW w dir A ks.length cp) b g a0 a1 a2 (r0 a0 a1 a2 k) W)) (fun v13 _ => 3 - (intOf v13).toNat)
    case atStart => exact ⟨0, rfl, ⟨by omega, H7.out⟩⟩
    case round =>
      obtain ⟨k, rfl, HF⟩ := hrel
      clear H7 hg
      by_cases hk : k < 3
      · obtain ⟨nm, hn⟩ : ∃ nm, nm3 k = nm := ⟨_, rfl⟩
        obtain ⟨tx, ht⟩ : ∃ tx, tx3 a0 a1 a2 k = tx := ⟨_, rfl⟩
        have HNM := Lib.hid hn
        have HTX := Lib.hid ht
        clear hn ht
        have hk0 : (0 : Int) ≤ (k : Int) := by omega
        have hk3 : (k : Int) < 3 := by omega
        have hI := HF.out.2
        obtain ⟨hc1, hc2⟩ := hI.cells hk HNM.out HTX.out
        have HF3 := Lib.hid HF.out.1
        clear HF
        go_wp2
        go_region_held3 (fun W => W.cell? ⟨g, k, none⟩ = some (.string nm) ∧ W.cell? ⟨g + 1, k, none⟩ = some (.string tx))
          (first | exact hI.cells hk HNM.out HTX.out | exact hI.drew.cells hk HNM.out HTX.out)
          (first
            | (go_at_call 12; first | (with_reducible refine (rn_create hI hs hk HNM.out).mono ?_) | (with_reducible refine (rn_create hI.drew hs hk HNM.out).mono ?_)
               rintro e w3 ⟨rfl, n0_⟩; clear hI; have hI := n0_; clear n0_)
            | (go_at_call 13; first | (with_reducible refine (rn_append hI hs hk HNM.out HTX.out).mono ?_) | (with_reducible refine (rn_append hI.drew hs hk HNM.out HTX.out).mono ?_)
               rintro e w3 ⟨rfl, n0_⟩; clear hI; have hI := n0_; clear n0_)
            | (go_at_call 14; first | (with_reducible refine (rn_sync hI hs hk HNM.out).mono ?_) | (with_reducible refine (rn_sync hI.drew hs hk HNM.out).mono ?_)
               rintro e w3 ⟨rfl, n0_⟩; clear hI; have hI := n0_; clear n0_))
        go_wp2
        go_roundw
        case rel => exact ⟨k + 1, by go_num, ⟨by omega, hI⟩⟩
        case measure => simp [intOf]; omega
      · have hk3 : k = 3 := by have := HF.out.1; omega
        have H0 := Lib.hid (show RnI (BoxW w dir A ks.length cp) b g a0 a1 a2 (r0 a0 a1 a2 3) wr from hk3 ▸ HF.out.2)
        clear HF hk3
        by_cases hdir : dir < 1
        all_goals
          go_wp2_with (first
            | (go_at_call 15; (with_reducible refine (rn_syncDir H0.out hs).mono ?_); rintro e w3 ⟨rfl, h3⟩; have H3 := Lib.hid h3; clear h3)
            | (go_at_call 18; (with_reducible refine (rn_rename H3.out hs).mono ?_); rintro e w4 ⟨rfl, h4⟩; have H4 := Lib.hid h4; have HR4 := Lib.hid (rn_reads h4 hs); clear h4; clear H3)
            | (go_at_call 19; (with_reducible refine (rn_used H4.out hs).mono ?_); rintro e w5 ⟨rfl, h5⟩; have H5 := Lib.hid h5; obtain ⟨hx0, hx1, hx2⟩ := box_cells h5.low; have HX2 := Lib.hid hx2; clear h5 hx2; clear H4)
            | (go_at_call 16; (with_reducible refine (rn_crash H5.out hs (Kd.C_below HR.out HX2.out) HC.out HWK.out).mono ?_); rintro e w6 ⟨b2, rfl, h6⟩; have H6 := Lib.hid h6; clear hx0 hx1; obtain ⟨hx0, hx1, hx2⟩ := box_cells h6.low; clear h6 hx2; clear H5; clear HR4; first | (have HR4 := Lib.hid (rn_reads1 H6.out hs (by omega))) | (have HR4 := Lib.hid (rn_reads2 H6.out hs (by omega))))
            | (go_at_call 17; first
                | (with_reducible refine HR4.out.1.mono ?_; rintro e w7 ⟨rfl, rfl⟩)
                | (with_reducible refine HR4.out.2.1.mono ?_; rintro e w7 ⟨rfl, rfl⟩)
                | (with_reducible refine HR4.out.2.2.mono ?_; rintro e w7 ⟨rfl, rfl⟩)))
          go_ret
          exact ⟨rfl, (box_cells H6.out.low).2.2⟩
  · have hb : (1000 < (a0.size : Int) + (a1.size : Int) + (a2.size : Int)) = True := eq_true (by omega)
    go_enter Try.func4, Try.ntmps4
    go_wp2_with (first
      | (go_at_call 10; refine (shown7_calls _).mono ?_; rintro e w1 ⟨rfl, hb1⟩; have HB1 := Lib.hid (show Below (BoxW w dir A ks.length cp).heap.size (BoxW w dir A ks.length cp) w1 from hb1); clear hb1)
      | (go_at_call 11; refine (lot_new (Lot.start HB1.out) _).mono ?_; rintro e w2 ⟨b, rfl, h2⟩; have H2 := Lib.hid h2; clear h2))
    go_ret
    exact ⟨rfl, (box_cells H2.out.low).2.2⟩
end Go.Proofs.Ytolbicncdookmaa.XDsk
namespace Go.Proofs.Ytolbicncdookmaa
theorem Pure.DiskRename : XDsk.postroomlaw7_DiskRename.Pure := trivial
end Go.Proofs.Ytolbicncdookmaa
