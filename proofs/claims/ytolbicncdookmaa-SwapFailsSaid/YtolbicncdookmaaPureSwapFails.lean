/- SwapFails: its walk. Conditions: lengths of 64 bits. -/
import Derived.Test.YtolbicncdookmaaSwpFails
import Derived.Test.YtolbicncdookmaaXDskx1
namespace Go.Proofs.Ytolbicncdookmaa.XDsk
open Go Go.RowKit Go.Maps Go.Sort Go.Shelf Go.Proofs.YtolbicncdookmaaW.PrintWords Go.Proofs.YtolbicncdookmaaW.PrintLast Go.Proofs.YtolbicncdookmaaW.PrintMore Go.Proofs.Ytolbicncdookmaa.Num
set_option linter.unusedVariables false
set_option linter.unusedSimpArgs false
def postroomlaw8_SwapFails.Pure : Prop := True
def BoxK (w : World) (dir : Int) (A : Option Addr) (n cp : Nat) : World := w.alloc (.cells #[.int .i64 dir, .slice A n cp] 33)
theorem boxK_cells {w W : World} {dir : Int} {A : Option Addr} {n cp : Nat} (h : Below (BoxK w dir A n cp).heap.size (BoxK w dir A n cp) W) : W.cell? ⟨w.heap.size, 0, none⟩ = some (.int .i64 dir) ∧ W.cell? ⟨w.heap.size, 1, none⟩ = some (.slice A n cp) ∧ Below w.heap.size w W := by
  have h0 : (BoxK w dir A n cp).heap[w.heap.size]? = some (.cells #[.int .i64 dir, .slice A n cp] 33 (0, 0)) := blk_new w _
  have h1 : W.heap[w.heap.size]? = some (.cells #[.int .i64 dir, .slice A n cp] 33 (0, 0)) := (h.block _ (by unfold BoxK; simp)).trans h0
  exact ⟨(blk_cell h1 0).trans rfl, (blk_cell h1 1).trans rfl, below_step (below_alloc (Below.refl _ _) _) h⟩
theorem pick3_is (a : Int) (ha : (Lit.int .i64 a).wf = true) : ∃ r, postroomlaw8_pick.f a 3 = some r ∧ 0 ≤ r ∧ r < 3 := by
  have hw : -9223372036854775808 ≤ a ∧ a < 9223372036854775808 := by
    simp [Lit.wf, IntKind.min, IntKind.max, IntKind.signed, IntKind.bits] at ha; omega
  unfold postroomlaw8_pick.f
  by_cases h : a < 0
  · rw [if_pos h, if_neg (by omega), w64_id (x := a + 1) (by omega) (by omega), w64_id (by omega) (by omega)]
    exact ⟨_, rfl, Int.tmod_nonneg _ (by omega), Int.tmod_lt_of_pos _ (by omega)⟩
  · rw [if_neg h, if_neg (by omega)]
    exact ⟨_, rfl, Int.tmod_nonneg _ (by omega), Int.tmod_lt_of_pos _ (by omega)⟩
theorem sw_all (s t : ByteArray) (hs : s.size ≤ 1000) (ht : t.size ≤ 1000) (p : Int) (h0 : 0 ≤ p) (h3 : p < 3) (dir : Int) (ks : List Int) :
    (writeE (newD ((s.size : Int) + 5)) nCk s = 0 ∧ writeS (newD ((s.size : Int) + 5)) nCk s = ckD ((s.size : Int) + 5) 6 s) ∧ Good 0 (newD ((s.size : Int) + 5)) ∧ Good 5000 (failS (ckD ((s.size : Int) + 5) 6 s) (1 + p)) ∧
    ∃ e S r, writeE (failS (ckD ((s.size : Int) + 5) 6 s) (1 + p)) nCk t = e ∧ writeS (failS (ckD ((s.size : Int) + 5) 6 s) (1 + p)) nCk t = S ∧ FailW S r dir ks ∧
      ((5 < (t.size : Int) ∧ e = 9 ∧ r = s) ∨ (¬ 5 < (t.size : Int) ∧ p < 2 ∧ e = 10 ∧ r = s) ∨ (¬ 5 < (t.size : Int) ∧ ¬ p < 2 ∧ e = 0 ∧ r = t)) := by
  have h1 := ck_write ((s.size : Int) + 5) s (by omega) (by omega) (by omega)
  have g0 := Good.new (room := (s.size : Int) + 5) (by omega)
  have g1 := g0.write nCk s (by decide)
  rw [h1.2] at g1
  have g2 := (g1.failS (n := 1 + p) (by omega)).mono (show 0 + 18 + s.size ≤ 5000 by omega)
  have eS : failS (ckD ((s.size : Int) + 5) 6 s) (1 + p) = fl ((s.size : Int) + 5) [⟨s, s, []⟩] ckN ckN [] 6 (1 + p) := by
    show fl ((s.size : Int) + 5) [⟨s, s, []⟩] ckN ckN [] 6 (max (1 + p) 0) = _
    rw [Int.max_eq_left (by omega)]
  refine ⟨h1, g0, g2, ?_⟩
  have g3 := (g2.write nCk t (by decide)).mono (show 5000 + 18 + t.size ≤ 10000 by omega)
  obtain ⟨f1, f2, f3⟩ := fail_write ((s.size : Int) + 5) s t (1 + p) rfl (by omega) (by omega)
  rw [eS] at g3 ⊢
  by_cases hf : (5 : Int) < (t.size : Int)
  · obtain ⟨he, f, o, q', hS⟩ := f1 hf
    rw [hS] at g3
    exact ⟨_, _, _, he, hS, old_w g3, .inl ⟨hf, rfl, rfl⟩⟩
  · by_cases hp : p < 2
    · obtain ⟨he, f, o, q', hS⟩ := f2 hf (by omega)
      rw [hS] at g3
      exact ⟨_, _, _, he, hS, old_w g3, .inr (.inl ⟨hf, hp, rfl, rfl⟩)⟩
    · obtain ⟨he, o, q', hS⟩ := f3 hf (by omega)
      rw [hS] at g3
      exact ⟨_, _, _, he, hS, new_w g3, .inr (.inr ⟨hf, hp, rfl, rfl⟩)⟩
set_option maxHeartbeats 20000000 in
set_option maxRecDepth 100000 in
theorem postroomlaw8_SwapFails.walk (P : postroomlaw8_SwapFails.Pure) (a0 a1 : ByteArray) (a2 : Int) (dir : Int) (A : Option Addr) (cp : Nat) (ks : List Int) (w : World) (hr : Kd.C (Kd.int .i64) w A ks.length ks) (hc : ks.length ≤ cp) (hw0 : a0.size ≤ 140737488351232) (hw1 : a1.size ≤ 140737488351232) (hw2 : (Lit.int .i64 a2).wf = true) (hd : (Lit.int .i64 dir).wf = true) (hm : ks.length ≤ maxLen) (hwk : ∀ x ∈ ks, (Lit.int .i64 x).wf = true) :
    Calls Try.prog 7 #[.string a0, .string a1, .int .i64 a2, .agg #[.int .i64 dir, .slice A ks.length cp]] w fun e w' => e = .returned (.bool true) ∧ Below w.heap.size w w' := by
  obtain ⟨p, hp, hp0, hp3⟩ := pick3_is a2 hw2
  have HR := Lib.hid hr
  have HC := Lib.hid hc
  have HWK := Lib.hid hwk
  have HP := Lib.hid hp
  clear P hr hc hd hm hwk hw2 hp
  by_cases hs : a0.size ≤ 1000
  · by_cases ht : a1.size ≤ 1000
    · obtain ⟨hk, hg0, hg2, e, S, r, he, hS, hW, hway⟩ := sw_all a0 a1 hs ht p hp0 hp3 dir ks
      have HK := Lib.hid hk
      have HG0 := Lib.hid hg0
      have HG2 := Lib.hid hg2
      have HE := Lib.hid (And.intro he hS)
      have HW := Lib.hid hW
      have HZ := Lib.hid (And.intro hs ht)
      have hb1 : (1000 < (a0.size : Int)) = False := eq_false (by omega)
      have hb2 : (1000 < (a1.size : Int)) = False := eq_false (by omega)
      clear hk hg0 hg2 he hS hW
      rcases hway with ⟨hf, rfl, hrr⟩ | ⟨hf, hp2, rfl, hrr⟩ | ⟨hf, hp2, rfl, hrr⟩
      all_goals have hrr := hrr.symm
      all_goals subst hrr
      all_goals go_enter Try.func7, Try.ntmps7
      all_goals go_wp2_with (first
        | (go_at_call 29; refine (shown8_calls _).mono ?_; rintro e w1 ⟨rfl, hb1⟩; have HB1 := Lib.hid (show Below (BoxK w dir A ks.length cp).heap.size (BoxK w dir A ks.length cp) w1 from hb1); clear hb1)
        | (go_at_call 11; (refine (at_new HB1.out _).mono ?_); rintro e w2 ⟨b, rfl, h2⟩; have HI := Lib.hid h2; clear h2)
        | (go_at_call 31; (with_reducible refine (postroomlaw8_pick.calls _ _ _ _ HP.out).mono ?_); rintro e w4 ⟨rfl, hd4⟩; first | (have n0_ := Lib.hid (HI.out.below hd4.below); clear HI hd4; have HI := n0_; clear n0_) | (have n0_ := Lib.hid (HL.out.below hd4.below); clear HL hd4; have HL := n0_; clear n0_))
        | (go_at_call 21; (refine (at_fail HI.out _).mono ?_); rintro e w5 ⟨rfl, h6⟩; clear HI; have HJ := Lib.hid h6; clear h6)
        | (go_at_call 30; first
            | (have hA_ := write_calls (nm := nCk) (x := a1) HJ.out HG2.out (by have := HZ.out; omega) (by decide); rw [HE.out.1, HE.out.2] at hA_; refine hA_.mono ?_; clear hA_; rintro e w6 ⟨rfl, h6⟩; clear HJ; have HI := Lib.hid h6; obtain ⟨hx0, hx1, hx2⟩ := boxK_cells h6.low; have HX2 := Lib.hid hx2; clear hx2 h6)
            | (have hA_ := write_calls (nm := nCk) (x := a0) HI.out HG0.out (by have := HZ.out; omega) (by decide); rw [HK.out.1, HK.out.2] at hA_; refine hA_.mono ?_; clear hA_; rintro e w3 ⟨rfl, h6⟩; clear HI; have HI := Lib.hid h6; clear h6))
        | (go_at_call 16; have hA_ := lot_crash HI.out.2 HI.out.place HW.out.good (by decide) (Kd.C_below HR.out HX2.out) HC.out (dir := dir) HWK.out; (with_reducible refine hA_.mono ?_); clear hA_; rintro e w7 ⟨b2, rfl, h7⟩; clear HI; have HL := Lib.hid (show Lot (BoxK w dir A ks.length cp) [dsk (BoxK w dir A ks.length cp).heap.size b S, dsk (BoxK w dir A ks.length cp).heap.size b2 (crashD S dir ks)] w7 from h7); clear h7)
        | (go_at_call 17; first
            | (have hA_ := lot_read (i := 0) (b := b) (S := S) (name := nCk) HL.out rfl HW.out.good (by decide) (by decide); rw [HW.out.fo, HW.out.ro] at hA_; have hB_ : Calls Try.prog 17 #[.pointer (some ⟨b, 0, none⟩), .string ⟨#[99, 107]⟩] _ _ := hA_; (with_reducible refine hB_.mono ?_); clear hA_ hB_; rintro e w8 ⟨rfl, rfl⟩)
            | (have hA_ := lot_read (i := 1) (b := b2) (S := crashD S dir ks) (name := nCk) HL.out rfl (HW.out.good.crashD _ _) (by decide) (by decide); rw [HW.out.cf, HW.out.cr] at hA_; have hB_ : Calls Try.prog 17 #[.pointer (some ⟨b2, 0, none⟩), .string ⟨#[99, 107]⟩] _ _ := hA_; (with_reducible refine hB_.mono ?_); clear hA_ hB_; rintro e w8 ⟨rfl, rfl⟩))
        | (go_at_call 19; have hA_ := lot_used (i := 0) (b := b) (S := S) HL.out rfl HW.out.good (by decide); rw [HW.out.used] at hA_; (with_reducible refine hA_.mono ?_); clear hA_; rintro e w9 ⟨rfl, h9⟩; clear HL; have HL := Lib.hid h9; clear h9)
        | (go_at_call 27; have hA_ := at_list (At.of (i := 0) HL.out rfl) HW.out.good (by decide) HW.out.len; (with_reducible refine hA_.mono ?_); clear hA_; rintro e w9 ⟨AA, cap, rfl, h9⟩; clear HL; have HL := Lib.hid h9.2; clear h9))
      all_goals go_ret
      all_goals exact ⟨rfl, (boxK_cells HL.out.low).2.2⟩
    · have hb1 : (1000 < (a0.size : Int)) = False := eq_false (by omega)
      have hb2 : (1000 < (a1.size : Int)) = True := eq_true (by omega)
      go_enter Try.func7, Try.ntmps7
      go_wp2_with (first
        | (go_at_call 29; refine (shown8_calls _).mono ?_; rintro e w1 ⟨rfl, hb1⟩; have HB1 := Lib.hid (show Below (BoxK w dir A ks.length cp).heap.size (BoxK w dir A ks.length cp) w1 from hb1); clear hb1)
        | (go_at_call 11; refine (at_new HB1.out _).mono ?_; rintro e w2 ⟨b, rfl, h2⟩; have HI := Lib.hid h2; clear h2))
      go_ret
      exact ⟨rfl, (boxK_cells HI.out.low).2.2⟩
  · have hb1 : (1000 < (a0.size : Int)) = True := eq_true (by omega)
    go_enter Try.func7, Try.ntmps7
    go_wp2_with (first
      | (go_at_call 29; refine (shown8_calls _).mono ?_; rintro e w1 ⟨rfl, hb1⟩; have HB1 := Lib.hid (show Below (BoxK w dir A ks.length cp).heap.size (BoxK w dir A ks.length cp) w1 from hb1); clear hb1)
      | (go_at_call 11; refine (at_new HB1.out _).mono ?_; rintro e w2 ⟨b, rfl, h2⟩; have HI := Lib.hid h2; clear h2))
    go_ret
    exact ⟨rfl, (boxK_cells HI.out.low).2.2⟩
end Go.Proofs.Ytolbicncdookmaa.XDsk
namespace Go.Proofs.Ytolbicncdookmaa
theorem Pure.SwapFails : XDsk.postroomlaw8_SwapFails.Pure := trivial
end Go.Proofs.Ytolbicncdookmaa
