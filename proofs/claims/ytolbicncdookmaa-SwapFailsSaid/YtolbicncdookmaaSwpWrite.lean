/- swap.Write, walked. Conditions: the disk is right, and not too large. -/
import Derived.Test.YtolbicncdookmaaSwpPure
import Derived.Test.YtolbicncdookmaaXDskx2
namespace Go.Proofs.Ytolbicncdookmaa.XDsk
open Go Go.RowKit Go.Maps Go.Sort Go.Shelf Go.Proofs.YtolbicncdookmaaW.PrintWords Go.Proofs.YtolbicncdookmaaW.PrintLast Go.Proofs.YtolbicncdookmaaW.PrintMore Go.Proofs.Ytolbicncdookmaa.Num
set_option linter.unusedVariables false
set_option linter.unusedSimpArgs false
/-- The disk at that place, and the rest as it was. -/
def At (w0 : World) (Ts : List Thing) (i b : Nat) (S : PD) (W : World) : Prop := i < Ts.length ∧ Lot w0 (Ts.set i (dsk w0.heap.size b S)) W
variable {w0 W W' : World} {b c i : Nat} {S S' : PD} {name s dst nm x : ByteArray} {n : Int} {Ts : List Thing}
theorem At.of (h : Lot w0 Ts W) (hi : Ts[i]? = some (dsk w0.heap.size b S)) : At w0 Ts i b S W := by
  obtain ⟨hl, e⟩ := List.getElem?_eq_some_iff.1 hi
  refine ⟨hl, ?_⟩
  rw [← e, List.set_getElem_self]
  exact h
theorem At.place (h : At w0 Ts i b S W) : (Ts.set i (dsk w0.heap.size b S))[i]? = some (dsk w0.heap.size b S) := by rw [List.getElem?_set_self h.1]
theorem At.next (h : At w0 Ts i b S W) (k : Lot w0 ((Ts.set i (dsk w0.heap.size b S)).set i (dsk w0.heap.size b S')) W') : At w0 Ts i b S' W' := ⟨h.1, by rw [List.set_set] at k; exact k⟩
theorem At.low (h : At w0 Ts i b S W) : Below w0.heap.size w0 W := h.2.1
theorem At.below (h : At w0 Ts i b S W) (hb : Below W.heap.size W W') : At w0 Ts i b S W' := ⟨h.1, h.2.below hb⟩
theorem at_create (h : At w0 Ts i b S W) (g : Good c S) (hc : c ≤ 100000) (hn : name.size ≤ 1000000) :
    Calls Try.prog 12 #[.pointer (some ⟨b, 0, none⟩), .string name] W fun e w' => e = .returned (.int .i64 (createE S name)) ∧ At w0 Ts i b (createS S name) w' :=
  (lot_create h.2 h.place g hc hn).mono (fun e w' ⟨he, k⟩ => ⟨he, h.next k⟩)
theorem at_append (h : At w0 Ts i b S W) (g : Good c S) (hc : c ≤ 100000) (hn : name.size ≤ 1000000) (hs : s.size ≤ 1000000) :
    Calls Try.prog 13 #[.pointer (some ⟨b, 0, none⟩), .string name, .string s] W fun e w' => e = .returned (.int .i64 (appendE S name s)) ∧ At w0 Ts i b (appendS S name s) w' :=
  (lot_append h.2 h.place g hc hn hs).mono (fun e w' ⟨he, k⟩ => ⟨he, h.next k⟩)
theorem at_sync (h : At w0 Ts i b S W) (g : Good c S) (hc : c ≤ 100000) (hn : name.size ≤ 1000000) :
    Calls Try.prog 14 #[.pointer (some ⟨b, 0, none⟩), .string name] W fun e w' => e = .returned (.int .i64 (syncE S name)) ∧ At w0 Ts i b (syncS S name) w' :=
  (lot_sync h.2 h.place g hc hn).mono (fun e w' ⟨he, k⟩ => ⟨he, h.next k⟩)
theorem at_rename (h : At w0 Ts i b S W) (g : Good c S) (hc : c ≤ 100000) (hn : name.size ≤ 1000000) (hs : dst.size ≤ 1000000) :
    Calls Try.prog 18 #[.pointer (some ⟨b, 0, none⟩), .string name, .string dst] W fun e w' => e = .returned (.int .i64 (renameE S name dst)) ∧ At w0 Ts i b (renameS S name dst) w' :=
  (lot_rename h.2 h.place g hc hn hs).mono (fun e w' ⟨he, k⟩ => ⟨he, h.next k⟩)
theorem at_remove (h : At w0 Ts i b S W) (g : Good c S) (hc : c ≤ 100000) (hn : name.size ≤ 1000000) :
    Calls Try.prog 25 #[.pointer (some ⟨b, 0, none⟩), .string name] W fun e w' => e = .returned (.int .i64 (removeE S name)) ∧ At w0 Ts i b (removeS S name) w' :=
  (lot_remove h.2 h.place g hc hn).mono (fun e w' ⟨he, k⟩ => ⟨he, h.next k⟩)
theorem at_syncDir (h : At w0 Ts i b S W) (g : Good c S) (hc : c ≤ 100000) :
    Calls Try.prog 15 #[.pointer (some ⟨b, 0, none⟩)] W fun e w' => e = .returned (.int .i64 (beginE S)) ∧ At w0 Ts i b (syncDirS S) w' :=
  (lot_syncDir h.2 h.place g hc).mono (fun e w' ⟨he, k⟩ => ⟨he, h.next k⟩)
set_option maxHeartbeats 20000000 in
set_option maxRecDepth 100000 in
theorem write_calls (h : At w0 Ts i b S W) (g : Good c S) (hc : c + x.size ≤ 90000) (hn : nm.size ≤ 900000) :
    Calls Try.prog 30 #[.pointer (some ⟨b, 0, none⟩), .string nm, .string x] W fun e w' => e = .returned (.int .i64 (writeE S nm x)) ∧ At w0 Ts i b (writeS S nm x) w' := by
  obtain ⟨kf, hf⟩ := fits_f nm (by omega)
  have hmf : ∀ (fn : Fn) (first cap : Array Value) (w : World), (Instr.makeFunc fn first cap).run Try.prog w = .ok (.func fn first cap) w := fun _ _ _ _ => rfl
  have htz := tmp_size nm
  have htn : tmpN nm = nm ++ (⟨#[126]⟩ : ByteArray) := rfl
  unfold writeE writeS putE putS
  generalize tmpN nm = t at *
  have HT := Lib.hid (show t.size ≤ 1000000 by omega)
  have HNM := Lib.hid (show nm.size ≤ 1000000 by omega)
  have HXS := Lib.hid (show x.size ≤ 1000000 by omega)
  have g1 := g.remove t HT.out
  generalize he1 : removeE S t = e1
  generalize hs1 : removeS S t = S1 at *
  have g2 := g1.create t HT.out
  generalize he2 : createE S1 t = e2
  generalize hs2 : createS S1 t = S2 at *
  have g3 := g2.append t x
  generalize he3 : appendE S2 t x = e3
  generalize hs3 : appendS S2 t x = S3 at *
  have g4 := g3.sync t
  generalize he4 : syncE S3 t = e4
  generalize hs4 : syncS S3 t = S4 at *
  have g5 := g4.rename t nm HT.out HNM.out
  have HI := Lib.hid h
  have HG0 := Lib.hid g
  have HG1 := Lib.hid g1
  have HG2 := Lib.hid g2
  have HG3 := Lib.hid g3
  have HG4 := Lib.hid g4
  have HG5 := Lib.hid g5
  have HE1 := Lib.hid (And.intro he1 hs1)
  have HE2 := Lib.hid (And.intro he2 hs2)
  have HE3 := Lib.hid (And.intro he3 hs3)
  have HE4 := Lib.hid (And.intro he4 hs4)
  have HF := Lib.hid hf
  have HC := Lib.hid hc
  have hbig : (9223372036854775807 < nm.size + 1) = False := eq_false (by omega)
  have hte := htn.symm
  clear h g g1 g2 g3 g4 g5 he1 hs1 he2 hs2 he3 hs3 he4 hs4 hf hc htn htz
  by_cases hfb : fitsB nm = false
  · rw [if_pos hfb, if_pos hfb]
    rw [hfb] at HF
    go_enter Try.func30, Try.ntmps30
    go_wp2_with (go_at_call 47; (with_reducible refine (swap_fits.calls _ _ _ _ HF.out).mono ?_); rintro e w6 ⟨rfl, hd6⟩; have n0_ := Lib.hid (HI.out.below hd6.below); clear HI hd6; have HI := n0_; clear n0_)
    go_ret
    exact ⟨rfl, HI.out⟩
  · rw [if_neg hfb, if_neg hfb]
    have hft : fitsB nm = true := by simpa using hfb
    rw [hft] at HF
    clear hfb hft
    by_cases h1 : e1 ≠ 0 ∧ e1 ≠ 5
    · rw [if_pos h1, if_pos h1]
      obtain ⟨ha, hb⟩ := h1
      have q1 : (e1 != 0) = true := by simpa using ha
      have q2 : (e1 != 5) = true := by simpa using hb
      have q3 : (e1 == 0) = false := by simpa using ha
      have q4 : (e1 == 5) = false := by simpa using hb
      clear ha hb
      go_enter Try.func30, Try.ntmps30
      go_wp2_with (first
          | (go_at_call 47; (with_reducible refine (swap_fits.calls _ _ _ _ HF.out).mono ?_); rintro e w6 ⟨rfl, hd6⟩; have n0_ := Lib.hid (HI.out.below hd6.below); clear HI hd6; have HI := n0_; clear n0_)
          | (go_at_call 25; have hA_ := at_remove (name := t) HI.out (by first | exact HG0.out | exact HG1.out | exact HG2.out | exact HG3.out | exact HG4.out | exact HG5.out) (by have := HC.out; omega) HT.out; (try rw [HE1.out.1, HE1.out.2] at hA_); (with_reducible refine hA_.mono ?_); clear hA_; rintro e w7 ⟨rfl, h7⟩; clear HI; have HI := Lib.hid h7; clear h7)
          | (go_at_call 12; have hA_ := at_create (name := t) HI.out (by first | exact HG0.out | exact HG1.out | exact HG2.out | exact HG3.out | exact HG4.out | exact HG5.out) (by have := HC.out; omega) HT.out; (try rw [HE2.out.1, HE2.out.2] at hA_); (with_reducible refine hA_.mono ?_); clear hA_; rintro e w7 ⟨rfl, h7⟩; clear HI; have HI := Lib.hid h7; clear h7)
          | (go_at_call 13; have hA_ := at_append (name := t) (s := x) HI.out (by first | exact HG0.out | exact HG1.out | exact HG2.out | exact HG3.out | exact HG4.out | exact HG5.out) (by have := HC.out; omega) HT.out HXS.out; (try rw [HE3.out.1, HE3.out.2] at hA_); (with_reducible refine hA_.mono ?_); clear hA_; rintro e w7 ⟨rfl, h7⟩; clear HI; have HI := Lib.hid h7; clear h7)
          | (go_at_call 14; have hA_ := at_sync (name := t) HI.out (by first | exact HG0.out | exact HG1.out | exact HG2.out | exact HG3.out | exact HG4.out | exact HG5.out) (by have := HC.out; omega) HT.out; (try rw [HE4.out.1, HE4.out.2] at hA_); (with_reducible refine hA_.mono ?_); clear hA_; rintro e w7 ⟨rfl, h7⟩; clear HI; have HI := Lib.hid h7; clear h7)
          | (go_at_call 18; have hA_ := at_rename (name := t) (dst := nm) HI.out (by first | exact HG0.out | exact HG1.out | exact HG2.out | exact HG3.out | exact HG4.out | exact HG5.out) (by have := HC.out; omega) HT.out HNM.out; (try rw [HE6.out.1, HE6.out.2] at hA_); (with_reducible refine hA_.mono ?_); clear hA_; rintro e w7 ⟨rfl, h7⟩; clear HI; have HI := Lib.hid h7; clear h7)
          | (go_at_call 15; have hA_ := at_syncDir HI.out (by first | exact HG0.out | exact HG1.out | exact HG2.out | exact HG3.out | exact HG4.out | exact HG5.out) (by have := HC.out; omega); (with_reducible refine hA_.mono ?_); clear hA_; rintro e w7 ⟨rfl, h7⟩; clear HI; have HI := Lib.hid h7; clear h7))
      go_ret
      exact ⟨rfl, HI.out⟩
    · rw [if_neg h1, if_neg h1]
      have h1' : e1 = 0 ∨ e1 = 5 := by omega
      clear h1
      by_cases h2 : e2 = 0
      · subst h2
        rw [if_neg (show ¬ ((0 : Int) ≠ 0) by decide), if_neg (show ¬ ((0 : Int) ≠ 0) by decide)]
        by_cases h3 : e3 = 0
        · subst h3
          simp only [if_true]
          generalize he6 : renameE S4 t nm = e6
          generalize hs6 : renameS S4 t nm = S6 at *
          have HE6 := Lib.hid (And.intro he6 hs6)
          clear he6 hs6
          by_cases h4 : e4 = 0
          · subst h4
            rw [if_neg (show ¬ ((0 : Int) ≠ 0) by decide), if_neg (show ¬ ((0 : Int) ≠ 0) by decide)]
            by_cases h6 : e6 = 0
            · subst h6
              rw [if_neg (show ¬ ((0 : Int) ≠ 0) by decide), if_neg (show ¬ ((0 : Int) ≠ 0) by decide)]
              rcases h1' with rfl | rfl
              all_goals go_enter Try.func30, Try.ntmps30
              all_goals go_wp2_with (first
          | (go_at_call 47; (with_reducible refine (swap_fits.calls _ _ _ _ HF.out).mono ?_); rintro e w6 ⟨rfl, hd6⟩; have n0_ := Lib.hid (HI.out.below hd6.below); clear HI hd6; have HI := n0_; clear n0_)
          | (go_at_call 25; have hA_ := at_remove (name := t) HI.out (by first | exact HG0.out | exact HG1.out | exact HG2.out | exact HG3.out | exact HG4.out | exact HG5.out) (by have := HC.out; omega) HT.out; (try rw [HE1.out.1, HE1.out.2] at hA_); (with_reducible refine hA_.mono ?_); clear hA_; rintro e w7 ⟨rfl, h7⟩; clear HI; have HI := Lib.hid h7; clear h7)
          | (go_at_call 12; have hA_ := at_create (name := t) HI.out (by first | exact HG0.out | exact HG1.out | exact HG2.out | exact HG3.out | exact HG4.out | exact HG5.out) (by have := HC.out; omega) HT.out; (try rw [HE2.out.1, HE2.out.2] at hA_); (with_reducible refine hA_.mono ?_); clear hA_; rintro e w7 ⟨rfl, h7⟩; clear HI; have HI := Lib.hid h7; clear h7)
          | (go_at_call 13; have hA_ := at_append (name := t) (s := x) HI.out (by first | exact HG0.out | exact HG1.out | exact HG2.out | exact HG3.out | exact HG4.out | exact HG5.out) (by have := HC.out; omega) HT.out HXS.out; (try rw [HE3.out.1, HE3.out.2] at hA_); (with_reducible refine hA_.mono ?_); clear hA_; rintro e w7 ⟨rfl, h7⟩; clear HI; have HI := Lib.hid h7; clear h7)
          | (go_at_call 14; have hA_ := at_sync (name := t) HI.out (by first | exact HG0.out | exact HG1.out | exact HG2.out | exact HG3.out | exact HG4.out | exact HG5.out) (by have := HC.out; omega) HT.out; (try rw [HE4.out.1, HE4.out.2] at hA_); (with_reducible refine hA_.mono ?_); clear hA_; rintro e w7 ⟨rfl, h7⟩; clear HI; have HI := Lib.hid h7; clear h7)
          | (go_at_call 18; have hA_ := at_rename (name := t) (dst := nm) HI.out (by first | exact HG0.out | exact HG1.out | exact HG2.out | exact HG3.out | exact HG4.out | exact HG5.out) (by have := HC.out; omega) HT.out HNM.out; (try rw [HE6.out.1, HE6.out.2] at hA_); (with_reducible refine hA_.mono ?_); clear hA_; rintro e w7 ⟨rfl, h7⟩; clear HI; have HI := Lib.hid h7; clear h7)
          | (go_at_call 15; have hA_ := at_syncDir HI.out (by first | exact HG0.out | exact HG1.out | exact HG2.out | exact HG3.out | exact HG4.out | exact HG5.out) (by have := HC.out; omega); (with_reducible refine hA_.mono ?_); clear hA_; rintro e w7 ⟨rfl, h7⟩; clear HI; have HI := Lib.hid h7; clear h7))
              all_goals go_ret
              all_goals exact ⟨rfl, HI.out⟩
            · rw [if_pos h6, if_pos h6]
              have q1 : (e6 != 0) = true := by simpa using h6
              have q2 : (e6 == 0) = false := by simpa using h6
              clear h6
              rcases h1' with rfl | rfl
              all_goals go_enter Try.func30, Try.ntmps30
              all_goals go_wp2_with (first
          | (go_at_call 47; (with_reducible refine (swap_fits.calls _ _ _ _ HF.out).mono ?_); rintro e w6 ⟨rfl, hd6⟩; have n0_ := Lib.hid (HI.out.below hd6.below); clear HI hd6; have HI := n0_; clear n0_)
          | (go_at_call 25; have hA_ := at_remove (name := t) HI.out (by first | exact HG0.out | exact HG1.out | exact HG2.out | exact HG3.out | exact HG4.out | exact HG5.out) (by have := HC.out; omega) HT.out; (try rw [HE1.out.1, HE1.out.2] at hA_); (with_reducible refine hA_.mono ?_); clear hA_; rintro e w7 ⟨rfl, h7⟩; clear HI; have HI := Lib.hid h7; clear h7)
          | (go_at_call 12; have hA_ := at_create (name := t) HI.out (by first | exact HG0.out | exact HG1.out | exact HG2.out | exact HG3.out | exact HG4.out | exact HG5.out) (by have := HC.out; omega) HT.out; (try rw [HE2.out.1, HE2.out.2] at hA_); (with_reducible refine hA_.mono ?_); clear hA_; rintro e w7 ⟨rfl, h7⟩; clear HI; have HI := Lib.hid h7; clear h7)
          | (go_at_call 13; have hA_ := at_append (name := t) (s := x) HI.out (by first | exact HG0.out | exact HG1.out | exact HG2.out | exact HG3.out | exact HG4.out | exact HG5.out) (by have := HC.out; omega) HT.out HXS.out; (try rw [HE3.out.1, HE3.out.2] at hA_); (with_reducible refine hA_.mono ?_); clear hA_; rintro e w7 ⟨rfl, h7⟩; clear HI; have HI := Lib.hid h7; clear h7)
          | (go_at_call 14; have hA_ := at_sync (name := t) HI.out (by first | exact HG0.out | exact HG1.out | exact HG2.out | exact HG3.out | exact HG4.out | exact HG5.out) (by have := HC.out; omega) HT.out; (try rw [HE4.out.1, HE4.out.2] at hA_); (with_reducible refine hA_.mono ?_); clear hA_; rintro e w7 ⟨rfl, h7⟩; clear HI; have HI := Lib.hid h7; clear h7)
          | (go_at_call 18; have hA_ := at_rename (name := t) (dst := nm) HI.out (by first | exact HG0.out | exact HG1.out | exact HG2.out | exact HG3.out | exact HG4.out | exact HG5.out) (by have := HC.out; omega) HT.out HNM.out; (try rw [HE6.out.1, HE6.out.2] at hA_); (with_reducible refine hA_.mono ?_); clear hA_; rintro e w7 ⟨rfl, h7⟩; clear HI; have HI := Lib.hid h7; clear h7)
          | (go_at_call 15; have hA_ := at_syncDir HI.out (by first | exact HG0.out | exact HG1.out | exact HG2.out | exact HG3.out | exact HG4.out | exact HG5.out) (by have := HC.out; omega); (with_reducible refine hA_.mono ?_); clear hA_; rintro e w7 ⟨rfl, h7⟩; clear HI; have HI := Lib.hid h7; clear h7))
              all_goals go_ret
              all_goals exact ⟨rfl, HI.out⟩
          · rw [if_pos h4, if_pos h4]
            have q1 : (e4 != 0) = true := by simpa using h4
            have q2 : (e4 == 0) = false := by simpa using h4
            clear h4
            rcases h1' with rfl | rfl
            all_goals go_enter Try.func30, Try.ntmps30
            all_goals go_wp2_with (first
          | (go_at_call 47; (with_reducible refine (swap_fits.calls _ _ _ _ HF.out).mono ?_); rintro e w6 ⟨rfl, hd6⟩; have n0_ := Lib.hid (HI.out.below hd6.below); clear HI hd6; have HI := n0_; clear n0_)
          | (go_at_call 25; have hA_ := at_remove (name := t) HI.out (by first | exact HG0.out | exact HG1.out | exact HG2.out | exact HG3.out | exact HG4.out | exact HG5.out) (by have := HC.out; omega) HT.out; (try rw [HE1.out.1, HE1.out.2] at hA_); (with_reducible refine hA_.mono ?_); clear hA_; rintro e w7 ⟨rfl, h7⟩; clear HI; have HI := Lib.hid h7; clear h7)
          | (go_at_call 12; have hA_ := at_create (name := t) HI.out (by first | exact HG0.out | exact HG1.out | exact HG2.out | exact HG3.out | exact HG4.out | exact HG5.out) (by have := HC.out; omega) HT.out; (try rw [HE2.out.1, HE2.out.2] at hA_); (with_reducible refine hA_.mono ?_); clear hA_; rintro e w7 ⟨rfl, h7⟩; clear HI; have HI := Lib.hid h7; clear h7)
          | (go_at_call 13; have hA_ := at_append (name := t) (s := x) HI.out (by first | exact HG0.out | exact HG1.out | exact HG2.out | exact HG3.out | exact HG4.out | exact HG5.out) (by have := HC.out; omega) HT.out HXS.out; (try rw [HE3.out.1, HE3.out.2] at hA_); (with_reducible refine hA_.mono ?_); clear hA_; rintro e w7 ⟨rfl, h7⟩; clear HI; have HI := Lib.hid h7; clear h7)
          | (go_at_call 14; have hA_ := at_sync (name := t) HI.out (by first | exact HG0.out | exact HG1.out | exact HG2.out | exact HG3.out | exact HG4.out | exact HG5.out) (by have := HC.out; omega) HT.out; (try rw [HE4.out.1, HE4.out.2] at hA_); (with_reducible refine hA_.mono ?_); clear hA_; rintro e w7 ⟨rfl, h7⟩; clear HI; have HI := Lib.hid h7; clear h7)
          | (go_at_call 18; have hA_ := at_rename (name := t) (dst := nm) HI.out (by first | exact HG0.out | exact HG1.out | exact HG2.out | exact HG3.out | exact HG4.out | exact HG5.out) (by have := HC.out; omega) HT.out HNM.out; (try rw [HE6.out.1, HE6.out.2] at hA_); (with_reducible refine hA_.mono ?_); clear hA_; rintro e w7 ⟨rfl, h7⟩; clear HI; have HI := Lib.hid h7; clear h7)
          | (go_at_call 15; have hA_ := at_syncDir HI.out (by first | exact HG0.out | exact HG1.out | exact HG2.out | exact HG3.out | exact HG4.out | exact HG5.out) (by have := HC.out; omega); (with_reducible refine hA_.mono ?_); clear hA_; rintro e w7 ⟨rfl, h7⟩; clear HI; have HI := Lib.hid h7; clear h7))
            all_goals go_ret
            all_goals exact ⟨rfl, HI.out⟩
        · simp only [if_neg h3]
          rw [if_pos h3, if_pos h3]
          have q1 : (e3 != 0) = true := by simpa using h3
          have q2 : (e3 == 0) = false := by simpa using h3
          clear h3
          rcases h1' with rfl | rfl
          all_goals go_enter Try.func30, Try.ntmps30
          all_goals go_wp2_with (first
          | (go_at_call 47; (with_reducible refine (swap_fits.calls _ _ _ _ HF.out).mono ?_); rintro e w6 ⟨rfl, hd6⟩; have n0_ := Lib.hid (HI.out.below hd6.below); clear HI hd6; have HI := n0_; clear n0_)
          | (go_at_call 25; have hA_ := at_remove (name := t) HI.out (by first | exact HG0.out | exact HG1.out | exact HG2.out | exact HG3.out | exact HG4.out | exact HG5.out) (by have := HC.out; omega) HT.out; (try rw [HE1.out.1, HE1.out.2] at hA_); (with_reducible refine hA_.mono ?_); clear hA_; rintro e w7 ⟨rfl, h7⟩; clear HI; have HI := Lib.hid h7; clear h7)
          | (go_at_call 12; have hA_ := at_create (name := t) HI.out (by first | exact HG0.out | exact HG1.out | exact HG2.out | exact HG3.out | exact HG4.out | exact HG5.out) (by have := HC.out; omega) HT.out; (try rw [HE2.out.1, HE2.out.2] at hA_); (with_reducible refine hA_.mono ?_); clear hA_; rintro e w7 ⟨rfl, h7⟩; clear HI; have HI := Lib.hid h7; clear h7)
          | (go_at_call 13; have hA_ := at_append (name := t) (s := x) HI.out (by first | exact HG0.out | exact HG1.out | exact HG2.out | exact HG3.out | exact HG4.out | exact HG5.out) (by have := HC.out; omega) HT.out HXS.out; (try rw [HE3.out.1, HE3.out.2] at hA_); (with_reducible refine hA_.mono ?_); clear hA_; rintro e w7 ⟨rfl, h7⟩; clear HI; have HI := Lib.hid h7; clear h7)
          | (go_at_call 14; have hA_ := at_sync (name := t) HI.out (by first | exact HG0.out | exact HG1.out | exact HG2.out | exact HG3.out | exact HG4.out | exact HG5.out) (by have := HC.out; omega) HT.out; (try rw [HE4.out.1, HE4.out.2] at hA_); (with_reducible refine hA_.mono ?_); clear hA_; rintro e w7 ⟨rfl, h7⟩; clear HI; have HI := Lib.hid h7; clear h7)
          | (go_at_call 18; have hA_ := at_rename (name := t) (dst := nm) HI.out (by first | exact HG0.out | exact HG1.out | exact HG2.out | exact HG3.out | exact HG4.out | exact HG5.out) (by have := HC.out; omega) HT.out HNM.out; (try rw [HE6.out.1, HE6.out.2] at hA_); (with_reducible refine hA_.mono ?_); clear hA_; rintro e w7 ⟨rfl, h7⟩; clear HI; have HI := Lib.hid h7; clear h7)
          | (go_at_call 15; have hA_ := at_syncDir HI.out (by first | exact HG0.out | exact HG1.out | exact HG2.out | exact HG3.out | exact HG4.out | exact HG5.out) (by have := HC.out; omega); (with_reducible refine hA_.mono ?_); clear hA_; rintro e w7 ⟨rfl, h7⟩; clear HI; have HI := Lib.hid h7; clear h7))
          all_goals go_ret
          all_goals exact ⟨rfl, HI.out⟩
      · rw [if_pos h2, if_pos h2]
        have q1 : (e2 != 0) = true := by simpa using h2
        have q2 : (e2 == 0) = false := by simpa using h2
        clear h2
        rcases h1' with rfl | rfl
        all_goals go_enter Try.func30, Try.ntmps30
        all_goals go_wp2_with (first
          | (go_at_call 47; (with_reducible refine (swap_fits.calls _ _ _ _ HF.out).mono ?_); rintro e w6 ⟨rfl, hd6⟩; have n0_ := Lib.hid (HI.out.below hd6.below); clear HI hd6; have HI := n0_; clear n0_)
          | (go_at_call 25; have hA_ := at_remove (name := t) HI.out (by first | exact HG0.out | exact HG1.out | exact HG2.out | exact HG3.out | exact HG4.out | exact HG5.out) (by have := HC.out; omega) HT.out; (try rw [HE1.out.1, HE1.out.2] at hA_); (with_reducible refine hA_.mono ?_); clear hA_; rintro e w7 ⟨rfl, h7⟩; clear HI; have HI := Lib.hid h7; clear h7)
          | (go_at_call 12; have hA_ := at_create (name := t) HI.out (by first | exact HG0.out | exact HG1.out | exact HG2.out | exact HG3.out | exact HG4.out | exact HG5.out) (by have := HC.out; omega) HT.out; (try rw [HE2.out.1, HE2.out.2] at hA_); (with_reducible refine hA_.mono ?_); clear hA_; rintro e w7 ⟨rfl, h7⟩; clear HI; have HI := Lib.hid h7; clear h7)
          | (go_at_call 13; have hA_ := at_append (name := t) (s := x) HI.out (by first | exact HG0.out | exact HG1.out | exact HG2.out | exact HG3.out | exact HG4.out | exact HG5.out) (by have := HC.out; omega) HT.out HXS.out; (try rw [HE3.out.1, HE3.out.2] at hA_); (with_reducible refine hA_.mono ?_); clear hA_; rintro e w7 ⟨rfl, h7⟩; clear HI; have HI := Lib.hid h7; clear h7)
          | (go_at_call 14; have hA_ := at_sync (name := t) HI.out (by first | exact HG0.out | exact HG1.out | exact HG2.out | exact HG3.out | exact HG4.out | exact HG5.out) (by have := HC.out; omega) HT.out; (try rw [HE4.out.1, HE4.out.2] at hA_); (with_reducible refine hA_.mono ?_); clear hA_; rintro e w7 ⟨rfl, h7⟩; clear HI; have HI := Lib.hid h7; clear h7)
          | (go_at_call 18; have hA_ := at_rename (name := t) (dst := nm) HI.out (by first | exact HG0.out | exact HG1.out | exact HG2.out | exact HG3.out | exact HG4.out | exact HG5.out) (by have := HC.out; omega) HT.out HNM.out; (try rw [HE6.out.1, HE6.out.2] at hA_); (with_reducible refine hA_.mono ?_); clear hA_; rintro e w7 ⟨rfl, h7⟩; clear HI; have HI := Lib.hid h7; clear h7)
          | (go_at_call 15; have hA_ := at_syncDir HI.out (by first | exact HG0.out | exact HG1.out | exact HG2.out | exact HG3.out | exact HG4.out | exact HG5.out) (by have := HC.out; omega); (with_reducible refine hA_.mono ?_); clear hA_; rintro e w7 ⟨rfl, h7⟩; clear HI; have HI := Lib.hid h7; clear h7))
        all_goals go_ret
        all_goals exact ⟨rfl, HI.out⟩
end Go.Proofs.Ytolbicncdookmaa.XDsk
