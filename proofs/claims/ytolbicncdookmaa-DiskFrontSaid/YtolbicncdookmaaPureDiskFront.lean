/- DiskFront: its walk. Conditions: lengths of 64 bits. -/
import Derived.Test.YtolbicncdookmaaDskFront

namespace Go.Proofs.Ytolbicncdookmaa.XDsk
open Go Go.RowKit Go.Maps Go.Sort Go.Shelf Go.Proofs.YtolbicncdookmaaW.PrintWords Go.Proofs.YtolbicncdookmaaW.PrintLast Go.Proofs.YtolbicncdookmaaW.PrintMore Go.Proofs.Ytolbicncdookmaa.Num
attribute [local go_sem] max_two min_two
set_option linter.unusedVariables false
set_option linter.unusedSimpArgs false
def postroomlaw7_DiskFront.Pure : Prop := True
def FrR (w0 : World) (b : Nat) (s : ByteArray) (l : List ByteArray) (k : Nat) (more : ByteArray) (W : World) : Prop :=
  k ≤ l.length ∧ more = catB (l.take k) ∧ more.size ≤ 100 * k ∧ ∃ c o, c ≤ 5000 + 200 * k ∧ Good c (fD o s (s ++ more) (apps (l.take k)) [(nF, 0)] []) ∧ Has w0 b (fD o s (s ++ more) (apps (l.take k)) [(nF, 0)] []) W
theorem app_empty (s : ByteArray) : s ++ ByteArray.empty = s := ba_eq (by rw [list_app]; exact List.append_nil _)
theorem empty_app (s : ByteArray) : ByteArray.empty ++ s = s := ba_eq (by rw [list_app]; rfl)
theorem g3 : Good 3 (fD 1 ByteArray.empty ByteArray.empty [] [] [⟨ByteArray.empty, nF, 0⟩]) := by
  have := (Good.new (room := 10000) (by decide)).create nF (by decide)
  rw [fD_create.2] at this
  exact this
theorem G4 (s : ByteArray) (hs : s.size ≤ 1000) : Good (6 + s.size) (fD (1 + 1) ByteArray.empty (ByteArray.empty ++ s) ([] ++ [(s, -1)]) [] [⟨ByteArray.empty, nF, 0⟩]) := by
  have := g3.append nF s
  rw [(fD_append _ _ _ _ _ _ _ (by simp; omega)).2] at this
  exact this
theorem G5 (s : ByteArray) (hs : s.size ≤ 1000) : Good (9 + s.size) (fD (1 + 1 + 1) (ByteArray.empty ++ s) (ByteArray.empty ++ s) [] [] [⟨ByteArray.empty, nF, 0⟩]) := by
  have := (G4 s hs).sync nF
  rw [(fD_sync _ _ _ _ _ _).2] at this
  exact this.mono (by omega)
theorem G6 (s : ByteArray) (hs : s.size ≤ 1000) : Good (12 + s.size) (fD 4 s s [] [(nF, 0)] []) := by
  have := (G5 s hs).syncDir
  rw [fD_syncDir, empty_app] at this
  exact this.mono (by omega)
theorem FrR.old {w0 W : World} {b k : Nat} {s more : ByteArray} {l : List ByteArray} {a : Addr} {v : Value} (h : FrR w0 b s l k more W) (hc : w0.cell? a = some v) : W.cell? a = some v := by
  obtain ⟨_, _, _, c, o, _, _, hh⟩ := h
  rw [hh.below.cell (World.block_lt_of_cell? w0 _ hc)]; exact hc
theorem front_step {w0 W : World} {b k n : Nat} {s more x : ByteArray} {l : List ByteArray} (hs : s.size ≤ 1000) (hn : n ≤ 20) (h : FrR w0 b s l k more W) (hk : k < l.length) (hx : l[k] = x) (hx1 : x.size ≤ 100) (hln : l.length = n) :
    Calls Try.prog 13 #[.pointer (some ⟨b, 0, none⟩), .string nF, .string x] W fun e w' => e = .returned (.int .i64 0) ∧ FrR w0 b s l (k + 1) (more ++ x) w' := by
  obtain ⟨h1, h2, h3, c, o, hc, hg, hh⟩ := h
  have hfit : (s ++ more).size + x.size ≤ 10000 := by rw [ByteArray.size_append]; omega
  have hA := has_append (name := nF) (s := x) hh hg (by omega) (by decide) (by omega)
  have hG := hg.append nF x
  rw [(fD_append _ _ _ _ _ _ _ hfit).1, (fD_append _ _ _ _ _ _ _ hfit).2] at hA
  rw [(fD_append _ _ _ _ _ _ _ hfit).2] at hG
  have e1 : l.take (k + 1) = l.take k ++ [x] := by rw [List.take_succ_eq_append_getElem hk, hx]
  have e2 : s ++ more ++ x = s ++ (more ++ x) := ba_eq (by rw [list_app, list_app, list_app, list_app, List.append_assoc])
  have e3 : apps (l.take k) ++ [(x, -1)] = apps (l.take (k + 1)) := by rw [e1]; unfold apps; rw [List.map_append]; rfl
  rw [e2, e3] at hA hG
  refine hA.mono ?_
  rintro e w' ⟨rfl, h4⟩
  exact ⟨rfl, hk, by rw [e1, cat_snoc, h2], by rw [ByteArray.size_append]; omega, c + 3 + x.size, o + 1, by omega, hG, h4⟩
def EndR (w0 W : World) (s : ByteArray) (more : ByteArray) (nn : Nat) (e : Ending) (w' : World) : Prop := ∃ b, e = .returned (.pointer (some ⟨b, 0, none⟩)) ∧ (Calls Try.prog 17 #[.pointer (some ⟨b, 0, none⟩), .string nF] w' fun e2 w2 => e2 = .returned (.tuple #[.string (s ++ more.extract 0 nn), .int .i64 0]) ∧ w' = w2) ∧ Below w0.heap.size w0 w'
theorem front_end {w0 W : World} {b k n : Nat} {s more : ByteArray} {l : List ByteArray} {keep : Int} (hs : s.size ≤ 1000) (hn : n ≤ 20) (h : FrR w0 b s l k more W) (hk : k = l.length) (hw : (Lit.int .i64 keep).wf = true) (hln : l.length = n) (t : TypeId) :
    Calls Try.prog 16 #[.pointer (some ⟨b, 0, none⟩), .agg #[.int .i64 0, .slice (some ⟨W.heap.size, 0, none⟩) 1 1]] (W.alloc (.cells #[.int .i64 keep] t)) (EndR w0 W s more (max 0 (min keep (more.size : Int))).toNat) := by
  obtain ⟨h1, h2, h3, c, o, hc, hg, hh⟩ := h
  refine (has_crash1 hh hg (by omega) hw 0 t).mono ?_
  rintro e w' ⟨b2, rfl, h4, _⟩
  obtain ⟨e1, e2⟩ := fD_crash c o s (s ++ more) (l.take k) keep hg
  have hr := has_read (name := nF) h4 (hg.crashD 0 [keep]) (by omega) (by decide)
  rw [e1, e2, ← h2] at hr
  exact ⟨b2, rfl, hr, h4.below⟩
set_option maxHeartbeats 8000000 in
set_option maxRecDepth 100000 in
theorem postroomlaw7_DiskFront.walk (P : postroomlaw7_DiskFront.Pure) (a0 : ByteArray) (A1 : Option Addr) (c1 : Nat) (l1 : List ByteArray) (a2 : Int) (w : World) (hr1 : Kd.C Kd.string w A1 l1.length l1) (hc1 : l1.length ≤ c1) (hw0 : a0.size ≤ 140737488351232) (hm1 : l1.length ≤ maxLen) (hy1 : l1.length * 16 ≤ 140737488351232) (hw1 : ∀ x ∈ l1, x.size ≤ maxLen) (hw2 : (Lit.int .i64 a2).wf = true) :
    Calls Try.prog 3 #[.string a0, .slice A1 l1.length c1, .int .i64 a2] w fun e w' => e = .returned (.bool true) ∧ Below w.heap.size w w' := by
  have HR := Lib.hid hr1
  have HW2 := Lib.hid hw2
  obtain ⟨n, hn⟩ : ∃ n, l1.length = n := ⟨_, rfl⟩
  have HN := Lib.hid hn
  rw [hn]
  clear P hr1 hc1 hm1 hy1 hw1 hw2 hn
  by_cases hs : a0.size ≤ 1000
  · by_cases hl : n ≤ 20
    · have hb : (1000 < (a0.size : Int)) = False := eq_false (by omega)
      have hb2 : (20 < (n : Int)) = False := eq_false (by omega)
      have k1 := fD_create.1
      go_enter Try.func3, Try.ntmps3
      go_wp2_with (first
        | (go_at_call 10; refine (shown7_calls _).mono ?_; rintro e w1 ⟨rfl, hb1⟩; have HB1 := Lib.hid hb1; clear hb1)
        | (go_at_call 11; refine (has_new HB1.out _).mono ?_; rintro e w2 ⟨b, rfl, h2, hx2⟩; have H2 := Lib.hid h2; clear hx2 h2)
        | (go_at_call 12; refine (has_create (name := nF) H2.out (Good.new (by decide)) (by decide) (by decide)).mono ?_; rintro e w3 ⟨rfl, h3⟩; rw [fD_create.2] at h3; have H3 := Lib.hid h3; clear h3)
        | (go_at_call 13; have hA := has_append (name := nF) (s := a0) H3.out g3 (by decide) (by decide) (by omega); rw [(fD_append _ _ _ _ _ _ _ (by simp; omega)).1, (fD_append _ _ _ _ _ _ _ (by simp; omega)).2] at hA; refine hA.mono ?_; clear hA; rintro e w4 ⟨rfl, h4⟩; have H4 := Lib.hid h4; clear h4)
        | (go_at_call 14; have hA := has_sync (name := nF) H4.out (G4 a0 hs) (by omega) (by decide); rw [(fD_sync _ _ _ _ _ _).1, (fD_sync _ _ _ _ _ _).2] at hA; refine hA.mono ?_; clear hA; rintro e w5 ⟨rfl, h5⟩; have H5 := Lib.hid h5; clear h5)
        | (go_at_call 15; have hA := has_syncDir H5.out (G5 a0 hs) (by omega); rw [(fD_begin _ _ _ _ _ _).2, fD_syncDir] at hA; refine hA.mono ?_; clear hA; rintro e w6 ⟨rfl, h6⟩; have H6 := Lib.hid h6; clear h6))
      clear k1
      have H7 := Lib.hid (show FrR w b a0 l1 0 ByteArray.empty w6 from ⟨Nat.zero_le _, rfl, by simp, 2000, 4, by omega, by rw [app_empty]; exact (G6 a0 hs).mono (by omega), by rw [app_empty]; have := H6.out; rw [empty_app] at this; exact this⟩)
      clear H6 hb
      go_loopw [9, 10] (fun v9 v10 W => ∃ (more : ByteArray) (k : Nat), v9 = .string more ∧ v10 = .int .i64 (k : Int) ∧ Aside0 (FrR w b a0 l1 k more W)) (fun _ v10 _ => n - (intOf v10).toNat)
      case atStart => exact ⟨ByteArray.empty, 0, rfl, rfl, ⟨H7.out⟩⟩
      case round =>
        obtain ⟨more, k, rfl, rfl, HF⟩ := hrel
        clear H7
        by_cases hk : k < n
        · have hkl : k < l1.length := by rw [HN.out]; exact hk
          obtain ⟨ad, hA1, hcell⟩ := Kd.at_string HR.out (k : Int) (by omega) (by omega)
          obtain ⟨x, hx⟩ : ∃ x, l1[k] = x := ⟨_, rfl⟩
          have hrd : rdOf ByteArray.empty l1 (k : Int) = x := by unfold rdOf; rw [Int.toNat_natCast, List.getD_eq_getElem?_getD, List.getElem?_eq_getElem hkl, hx]; rfl
          rw [hrd, Int.toNat_natCast] at hcell
          subst hA1
          have hc2 : wr.cell? (ad.add k) = some (.string x) := by
            have hbk : (ad.add k).block < w.heap.size := World.block_lt_of_cell? w _ hcell
            obtain ⟨_, _, _, c, o, _, _, hh⟩ := HF.out
            rw [hh.below.cell hbk]; exact hcell
          have HX := Lib.hid hx
          have HCELL := Lib.hid hcell
          clear hcell hrd hx
          by_cases hx1 : x.size ≤ 100
          · have hb3 : (100 < (x.size : Int)) = False := eq_false (by omega)
            have HAP := Lib.hid (front_step (x := x) hs hl HF.out (by rw [HN.out]; exact hk) HX.out hx1 HN.out)
            have hms : more.size ≤ 2000 := by have := HF.out.2.2.1; omega
            have hb4 : (9223372036854775807 < more.size + x.size) = False := eq_false (by omega)
            go_wp2_with (go_at_call 13; refine HAP.out.mono ?_; rintro e w7 ⟨rfl, h7⟩; have hc3 := h7.old HCELL.out; have H7 := Lib.hid h7; clear h7)
            go_roundw
            case rel => exact ⟨more ++ x, k + 1, rfl, by go_num, ⟨H7.out⟩⟩
            case measure => simp [intOf]; omega
          · have hb3 : (100 < (x.size : Int)) = True := eq_true (by omega)
            go_wp2
            go_ret
            exact ⟨rfl, by obtain ⟨_, _, _, c, o, _, _, hh⟩ := HF.out; exact hh.below⟩
        · have hkn : k = l1.length := by have := HF.out.1; rw [HN.out] at this ⊢; omega
          have hmk : k ≤ 20 := by rw [hkn, HN.out]; exact hl
          have HEND := Lib.hid (front_end (keep := a2) hs hl HF.out hkn HW2.out HN.out)
          have hms : more.size ≤ 2000 := by have := HF.out.2.2.1; omega
          obtain ⟨q, hq⟩ : ∃ q, min a2 (more.size : Int) = q := ⟨_, rfl⟩
          obtain ⟨nn, hnn⟩ : ∃ nn : Nat, max 0 q = (nn : Int) := ⟨(max 0 q).toNat, by omega⟩
          have hq1 : ∀ k k' : IntKind, Builtin.min2 (.int k a2) (.int k' (more.size : Int)) = pure (.int k q) := fun k k' => by
            rw [min2_int, ← hq]
            by_cases hlt : (more.size : Int) < a2
            · rw [if_pos hlt, Int.min_eq_right (by omega)]
            · rw [if_neg hlt, Int.min_eq_left (by omega)]
          have hq2 : ∀ k k' : IntKind, Builtin.max2 (.int k 0) (.int k' q) = pure (.int k (nn : Int)) := fun k k' => by
            rw [max2_int, ← hnn]
            by_cases hlt : 0 < q
            · rw [if_pos hlt, Int.max_eq_right (by omega)]
            · rw [if_neg hlt, Int.max_eq_left (by omega)]
          have hnl : (nn : Int) ≤ (more.size : Int) := by omega
          have hnl2 : nn ≤ more.size := by omega
          have hn0 : (0 : Int) ≤ (nn : Int) := by omega
          have HV := Lib.hid (show (max 0 (min a2 (more.size : Int))).toNat = nn by rw [hq, hnn]; omega)
          clear hkn hq hnn
          go_wp2_with (first
            | (go_at_call 16; refine (HEND.out _).mono ?_; rintro e w8 ⟨b8, rfl, h8⟩; rw [HV.out] at h8; have H8 := Lib.hid h8; clear h8)
            | (go_at_call 17; refine H8.out.1.mono ?_; rintro e w9 ⟨rfl, rfl⟩))
          go_ret
          exact ⟨rfl, H8.out.2⟩
    · have hb : (1000 < (a0.size : Int)) = False := eq_false (by omega)
      have hb2 : (20 < (n : Int)) = True := eq_true (by omega)
      go_enter Try.func3, Try.ntmps3
      go_wp2_with (first
        | (go_at_call 10; refine (shown7_calls _).mono ?_; rintro e w1 ⟨rfl, hb1⟩; have HB1 := Lib.hid hb1; clear hb1)
        | (go_at_call 11; refine (has_new HB1.out _).mono ?_; rintro e w2 ⟨b, rfl, h2, hx2⟩; have H2 := Lib.hid h2; clear hx2 h2))
      go_ret
      exact ⟨rfl, H2.out.below⟩
  · have hb : (1000 < (a0.size : Int)) = True := eq_true (by omega)
    go_enter Try.func3, Try.ntmps3
    go_wp2_with (first
      | (go_at_call 10; refine (shown7_calls _).mono ?_; rintro e w1 ⟨rfl, hb1⟩; have HB1 := Lib.hid hb1; clear hb1)
      | (go_at_call 11; refine (has_new HB1.out _).mono ?_; rintro e w2 ⟨b, rfl, h2, hx2⟩; have H2 := Lib.hid h2; clear hx2 h2))
    go_ret
    exact ⟨rfl, H2.out.below⟩
end Go.Proofs.Ytolbicncdookmaa.XDsk
namespace Go.Proofs.Ytolbicncdookmaa
theorem Pure.DiskFront : XDsk.postroomlaw7_DiskFront.Pure := trivial
end Go.Proofs.Ytolbicncdookmaa
