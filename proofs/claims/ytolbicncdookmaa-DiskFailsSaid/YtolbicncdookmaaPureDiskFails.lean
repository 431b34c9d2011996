/- DiskFails: its walk. Conditions: lengths of 64 bits. -/
import Derived.Test.YtolbicncdookmaaDskActC
import Derived.Test.YtolbicncdookmaaXDskx0
import Derived.Test.YtolbicncdookmaaXDskx1
namespace Go.Proofs.Ytolbicncdookmaa.XDsk
open Go Go.RowKit Go.Maps Go.Sort Go.Shelf Go.Proofs.YtolbicncdookmaaW.PrintWords Go.Proofs.YtolbicncdookmaaW.PrintLast Go.Proofs.YtolbicncdookmaaW.PrintMore Go.Proofs.Ytolbicncdookmaa.Num
set_option linter.unusedVariables false
set_option linter.unusedSimpArgs false
def postroomlaw7_DiskFails.Pure : Prop := True
def TwI (w0 : World) (a b : Nat) (Sa Sb : PD) (W : World) : Prop := Lot w0 [dsk w0.heap.size a Sa, dsk w0.heap.size b Sb] W
def TwR (w0 : World) (l : List Act1) (a b k : Nat) (f : Int) (W : World) : Prop :=
  k ≤ l.length ∧ (f = 0 ∨ f = 1) ∧ ∃ c Sa Sb, c + 3 * (l.length - k) + textsSum (l.drop k) ≤ 2000 ∧ Twin f Sa Sb ∧ Good c Sa ∧ Good c Sb ∧ TwI w0 a b Sa Sb W
variable {w0 W W' : World} {a b c k : Nat} {Sa Sb Sa' Sb' : PD} {nm tx : ByteArray} {n kd ea f : Int} {l : List Act1}
theorem TwI.low (h : TwI w0 a b Sa Sb W) : Below w0.heap.size w0 W := Lot.low h
theorem TwI.below (h : TwI w0 a b Sa Sb W) (hb : Below W.heap.size W W') : TwI w0 a b Sa Sb W' := Lot.below h hb
theorem TwI.drew (h : TwI w0 a b Sa Sb W) : TwI w0 a b Sa Sb W.drew := Lot.drew h
/-- The disks' numbers: what each call of an act is told. -/
structure ActG (c : Nat) (Sa Sb : PD) (nm tx : ByteArray) : Prop where
  ga : Good c Sa
  gb : Good c Sb
  hc : c ≤ 2000
  hn : nm.size ≤ 1000000
  ht : tx.size ≤ 1000000
theorem pick9 {p : Int} (h0 : 0 ≤ p) (h : p < 9) (room : Int) (hr : (Lit.int .i64 room).wf = true) : Twin 0 (failS (newD room) (1 + p)) (newD room) ∧ Good 0 (failS (newD room) (1 + p)) ∧ Good 0 (newD room) := by
  have hw : room ≤ 9223372036854775807 := by
    simp [Lit.wf, IntKind.min, IntKind.max, IntKind.signed, IntKind.bits] at hr; omega
  refine ⟨⟨rfl, rfl, max (1 + p) 0, rfl, .inl ⟨rfl, by omega⟩⟩, (Good.new hw).failS (by omega), Good.new hw⟩
set_option maxHeartbeats 40000000 in
set_option maxRecDepth 100000 in
theorem postroomlaw7_DiskFails.walk (P : postroomlaw7_DiskFails.Pure) (a0 : Int) (A1 : Option Addr) (c1 : Nat) (l1 : List Act1) (a2 : Int) (w : World) (hr1 : Kd.C k44 w A1 l1.length l1) (hc1 : l1.length ≤ c1) (hw0 : (Lit.int .i64 a0).wf = true) (hm1 : l1.length ≤ maxLen) (hy1 : l1.length * 64 ≤ 140737488351232) (hw1 : ∀ x ∈ l1, ((Lit.int .i64 x.f0).wf = true ∧ (Lit.int .i64 x.f1).wf = true ∧ (Lit.int .i64 x.f2).wf = true ∧ (Lit.int .i64 x.f3).wf = true ∧ x.f4.size ≤ maxLen ∧ x.f5.size ≤ maxLen)) (hz1 : actsWf l1) (hw2 : (Lit.int .i64 a2).wf = true) :
    Calls Try.prog 5 #[.int .i64 a0, .slice A1 l1.length c1, .int .i64 a2] w fun e w' => e = .returned (.bool true) ∧ Below w.heap.size w w' := by
  obtain ⟨kl, rl, hl, hlt⟩ := light_is l1 hy1 hz1
  obtain ⟨p, hp, hp0, hp9⟩ := pick_is a2 9 hw2 (by omega) (by omega)
  have HR := Lib.hid hr1
  have HC := Lib.hid hc1
  have HW0 := Lib.hid hw0
  have HW1 := Lib.hid hw1
  have HL := Lib.hid hl
  have HLT := Lib.hid hlt
  have HP := Lib.hid hp
  have HCEL := Lib.hid (fun (k : Nat) (hk : k < l1.length) => act_cells hr1 hk)
  clear P hr1 hc1 hw0 hm1 hw1 hz1 hw2 hl hlt hp
  cases rl with
  | false =>
    go_enter Try.func5, Try.ntmps5
    go_wp2_with (first
      | (go_at_call 10; refine (shown7_calls _).mono ?_; rintro e w1 ⟨rfl, hb1⟩; have HB1 := Lib.hid hb1; clear hb1)
      | (go_at_call 20; refine (postroomlaw7_light.calls kl A1 c1 l1 false _ (Kd.C_below HR.out HB1.out) HC.out HL.out).mono ?_; rintro e w2 ⟨rfl, hd2⟩; have HB2 := Lib.hid (below_step HB1.out hd2.below); clear hd2)
      | (go_at_call 11; first
          | (refine (lot_new H3.out _).mono ?_; rintro e w3 ⟨b, rfl, h4⟩; have H4 := Lib.hid h4; clear h4)
          | (refine (lot_new (Lot.start HB2.out) _).mono ?_; rintro e w3 ⟨a, rfl, h3⟩; have H3 := Lib.hid h3; clear h3)))
    go_ret
    exact ⟨rfl, H4.out.low⟩
  | true =>
    have HG := Lib.hid (HLT.out rfl)
    have hn100 : l1.length ≤ 100 := HG.out.1
    go_enter Try.func5, Try.ntmps5
    go_wp2_with (first
      | (go_at_call 10; refine (shown7_calls _).mono ?_; rintro e w1 ⟨rfl, hb1⟩; have HB1 := Lib.hid hb1; clear hb1)
      | (go_at_call 20; refine (postroomlaw7_light.calls kl A1 c1 l1 true _ (Kd.C_below HR.out HB1.out) HC.out HL.out).mono ?_; rintro e w2 ⟨rfl, hd2⟩; have HB2 := Lib.hid (below_step HB1.out hd2.below); clear hd2)
      | (go_at_call 11; first
          | (refine (lot_new H3.out _).mono ?_; rintro e w3 ⟨b, rfl, h4⟩; have H4 := Lib.hid h4; clear h4)
          | (refine (lot_new (Lot.start HB2.out) _).mono ?_; rintro e w3 ⟨a, rfl, h3⟩; have H3 := Lib.hid h3; clear h3))
      | (go_at_call 22; (with_reducible refine (postroomlaw7_pick.calls _ _ _ _ HP.out).mono ?_); rintro e w4 ⟨rfl, hd4⟩; have H5 := Lib.hid (H4.out.below hd4.below); clear hd4)
      | (go_at_call 21; refine (lot_fail (i := 0) H5.out rfl _).mono ?_; rintro e w5 ⟨rfl, h6⟩; have H6 := Lib.hid h6; clear h6))
    have H7 := Lib.hid (show TwR w l1 a b 0 0 w5 from ⟨Nat.zero_le _, .inl rfl, 0, _, _, by have := HG.out; rw [List.drop_zero]; omega, (pick9 hp0 hp9 a0 HW0.out).1, (pick9 hp0 hp9 a0 HW0.out).2.1, (pick9 hp0 hp9 a0 HW0.out).2.2, H6.out⟩)
    clear H3 H4 H5 H6
    go_loopw [11, 12] (fun v11 v12 W => ∃ (f : Int) (k : Nat), v11 = .int .i64 f ∧ v12 = .int .i64 (k : Int) ∧ Aside0 (TwR w l1 a b k f W)) (fun _ v12 _ => l1.length - (intOf v12).toNat)
    case atStart => exact ⟨0, 0, rfl, rfl, ⟨H7.out⟩⟩
    case round =>
      obtain ⟨f, k, rfl, rfl, HF⟩ := hrel
      clear H7 hp0 hp9
      by_cases hk : k < l1.length
      · have hkl := hk
        obtain ⟨ad, hA1, HCE⟩ := HCEL.out k hkl
        have HCE := Lib.hid HCE
        obtain ⟨x, hx⟩ : ∃ x, l1[k] = x := ⟨_, rfl⟩
        have hxm : x ∈ l1 := by rw [← hx]; exact List.getElem_mem hkl
        have hwf := HW1.out x hxm
        obtain ⟨kd, hkd, kd0, kd15⟩ := pick_is x.f0 15 hwf.1 (by omega) (by omega)
        obtain ⟨nm, hnm, hnz⟩ := name_is x.f1 x.f4 hwf.2.1
        obtain ⟨hk1, hf, c, Sa, Sb, hcb, htw, hga, hgb, hI⟩ := HF.out
        rw [hx] at HCE
        have htx := texts_cons hkl
        rw [hx] at htx
        have HG2 := Lib.hid (ActG.mk (nm := nm) (tx := x.f5) hga hgb (by omega) (by rcases hnz with h | h; omega; rw [h]; omega) (by omega))
        have HI := Lib.hid hI
        have HKD := Lib.hid hkd
        have HNM := Lib.hid hnm
        have HWB := Lib.hid (show c + 3 + x.f5.size + 3 * (l1.length - (k + 1)) + textsSum (l1.drop (k + 1)) ≤ 2000 by omega)
        have HSM := Lib.hid (act_same htw kd nm x.f5 x.f3)
        obtain ⟨ea, hea⟩ : ∃ ea, actE kd Sa nm x.f5 x.f3 = ea := ⟨_, rfl⟩
        obtain ⟨eb, heb⟩ : ∃ eb, actE kd Sb nm x.f5 x.f3 = eb := ⟨_, rfl⟩
        obtain ⟨Sa', hsa⟩ : ∃ S, actS kd Sa nm x.f5 x.f3 = S := ⟨_, rfl⟩
        obtain ⟨Sb', hsb⟩ : ∃ S, actS kd Sb nm x.f5 x.f3 = S := ⟨_, rfl⟩
        have HGA := Lib.hid (show Good (c + 3 + x.f5.size) Sa' by rw [← hsa]; exact hga.act kd nm x.f5 x.f3 HG2.out.hn)
        have HGB := Lib.hid (show Good (c + 3 + x.f5.size) Sb' by rw [← hsb]; exact hgb.act kd nm x.f5 x.f3 HG2.out.hn)
        have HGB0 := Lib.hid (show Good (c + 3 + x.f5.size) Sb from hgb.mono (by omega))
        have hsm := HSM.out
        rw [hea, heb, hsa, hsb] at hsm
        have HEA := Lib.hid hea
        have HEB := Lib.hid heb
        have HSA := Lib.hid hsa
        have HSB := Lib.hid hsb
        have HTW := Lib.hid htw
        obtain ⟨hx0, hx1, _, hx3, hx4, hx5⟩ := HCE.out _ HI.out.low
        subst hA1
        have hf0 : 0 ≤ f ∧ f ≤ 1 := by omega
        obtain ⟨hf00, hf01⟩ := hf0
        obtain ⟨f0, f1, f2, f3, f4, f5⟩ := x
        simp only [] at *
        clear HF HSM hx hxm hwf hkd hnm hnz hcb htw hga hgb hI htx hea heb hsa hsb hf hk1
        have hkk : kd < 2 ∨ (2 ≤ kd ∧ kd < 6) ∨ kd = 6 ∨ (7 ≤ kd ∧ kd < 9) ∨ (9 ≤ kd ∧ kd < 11) ∨ 11 ≤ kd := by omega
        go_wp2_with (go_at_call 22; (with_reducible refine (postroomlaw7_pick.calls _ _ _ _ HKD.out).mono ?_); rintro e w6 ⟨rfl, hd6⟩; have n0_ := Lib.hid (HI.out.below hd6.below); clear HI hd6; have HI := n0_; clear n0_; clear hx0 hx1 hx3 hx4 hx5; obtain ⟨hx0, hx1, _, hx3, hx4, hx5⟩ := HCE.out _ HI.out.low)
        have hI := HI.out
        clear HI
        go_region_held3 (fun W => W.cell? ⟨(ad.add (k * 6)).block, (ad.add (k * 6)).off + 1, none⟩ = some (.int .i64 f1) ∧ W.cell? ⟨(ad.add (k * 6)).block, (ad.add (k * 6)).off + 4, none⟩ = some (.string f4))
          (first | exact ⟨(HCE.out _ hI.low).2.1, (HCE.out _ hI.low).2.2.2.2.1⟩ | exact ⟨(HCE.out _ hI.drew.low).2.1, (HCE.out _ hI.drew.low).2.2.2.2.1⟩)
          (first | (go_at_call 23; (with_reducible refine (postroomlaw7_name.calls _ _ _ _ HNM.out).mono ?_); rintro e w7 ⟨rfl, hb7⟩; first | (have n0_ := hI.below hb7; clear hI hb7; have hI := n0_; clear n0_) | (have n0_ := hI.drew.below hb7; clear hI hb7; have hI := n0_; clear n0_)))
        have HI := Lib.hid hI
        clear hI hx0 hx1 hx3 hx4 hx5
        obtain ⟨_, _, _, hx3, _, hx5⟩ := HCE.out _ HI.out.low
        rcases hkk with hka | ⟨hka, hkb⟩ | hka | ⟨hka, hkb⟩ | ⟨hka, hkb⟩ | hka
        all_goals rcases hsm with ⟨rfl, rfl, ht⟩ | ⟨hne, rfl, ht⟩
        all_goals have HT := Lib.hid ht
        all_goals clear ht
        all_goals try (have hneb : (ea == 10) = false := by simpa using hne)
        all_goals try (have hq6 : (kd == 6) = false := by (have : kd ≠ 6 := by omega); simpa using this)
        all_goals try subst hka
        all_goals go_wp2_with (first
          | (go_at_call 12; first
              | (have hA_ := act_create (i := 0) (b := a) (S := Sa) (S' := Sa') (nm := nm) (tx := f5) (n := f3) HI.out rfl HG2.out.ga (by have := HG2.out.hc; omega) HG2.out.hn (by omega) HEA.out HSA.out; (with_reducible refine hA_.mono ?_); clear hA_; rintro e w8 ⟨rfl, h8⟩; clear HI; have HI := Lib.hid (show TwI w a b Sa' Sb w8 from h8); clear h8 hx3 hx5; obtain ⟨_, _, _, hx3, _, hx5⟩ := HCE.out _ HI.out.low)
              | (have hA_ := act_create (i := 1) (b := b) (S := Sb) (S' := Sb') (nm := nm) (tx := f5) (n := f3) HI.out rfl HG2.out.gb (by have := HG2.out.hc; omega) HG2.out.hn (by omega) HEB.out HSB.out; (with_reducible refine hA_.mono ?_); clear hA_; rintro e w8 ⟨rfl, h8⟩; clear HI; have HI := Lib.hid (show TwI w a b Sa' Sb' w8 from h8); clear h8))
          | (go_at_call 13; first
              | (have hA_ := act_append (i := 0) (b := a) (S := Sa) (S' := Sa') (nm := nm) (tx := f5) (n := f3) HI.out rfl HG2.out.ga (by have := HG2.out.hc; omega) HG2.out.hn HG2.out.ht (by omega) (by omega) HEA.out HSA.out; (with_reducible refine hA_.mono ?_); clear hA_; rintro e w8 ⟨rfl, h8⟩; clear HI; have HI := Lib.hid (show TwI w a b Sa' Sb w8 from h8); clear h8 hx3 hx5; obtain ⟨_, _, _, hx3, _, hx5⟩ := HCE.out _ HI.out.low)
              | (have hA_ := act_append (i := 1) (b := b) (S := Sb) (S' := Sb') (nm := nm) (tx := f5) (n := f3) HI.out rfl HG2.out.gb (by have := HG2.out.hc; omega) HG2.out.hn HG2.out.ht (by omega) (by omega) HEB.out HSB.out; (with_reducible refine hA_.mono ?_); clear hA_; rintro e w8 ⟨rfl, h8⟩; clear HI; have HI := Lib.hid (show TwI w a b Sa' Sb' w8 from h8); clear h8))
          | (go_at_call 24; first
              | (have hA_ := act_cut (i := 0) (b := a) (S := Sa) (S' := Sa') (nm := nm) (tx := f5) (n := f3) HI.out rfl HG2.out.ga (by have := HG2.out.hc; omega) HG2.out.hn (by omega) HEA.out HSA.out; (with_reducible refine hA_.mono ?_); clear hA_; rintro e w8 ⟨rfl, h8⟩; clear HI; have HI := Lib.hid (show TwI w a b Sa' Sb w8 from h8); clear h8 hx3 hx5; obtain ⟨_, _, _, hx3, _, hx5⟩ := HCE.out _ HI.out.low)
              | (have hA_ := act_cut (i := 1) (b := b) (S := Sb) (S' := Sb') (nm := nm) (tx := f5) (n := f3) HI.out rfl HG2.out.gb (by have := HG2.out.hc; omega) HG2.out.hn (by omega) HEB.out HSB.out; (with_reducible refine hA_.mono ?_); clear hA_; rintro e w8 ⟨rfl, h8⟩; clear HI; have HI := Lib.hid (show TwI w a b Sa' Sb' w8 from h8); clear h8))
          | (go_at_call 14; first
              | (have hA_ := act_sync (i := 0) (b := a) (S := Sa) (S' := Sa') (nm := nm) (tx := f5) (n := f3) HI.out rfl HG2.out.ga (by have := HG2.out.hc; omega) HG2.out.hn (by omega) (by omega) HEA.out HSA.out; (with_reducible refine hA_.mono ?_); clear hA_; rintro e w8 ⟨rfl, h8⟩; clear HI; have HI := Lib.hid (show TwI w a b Sa' Sb w8 from h8); clear h8 hx3 hx5; obtain ⟨_, _, _, hx3, _, hx5⟩ := HCE.out _ HI.out.low)
              | (have hA_ := act_sync (i := 1) (b := b) (S := Sb) (S' := Sb') (nm := nm) (tx := f5) (n := f3) HI.out rfl HG2.out.gb (by have := HG2.out.hc; omega) HG2.out.hn (by omega) (by omega) HEB.out HSB.out; (with_reducible refine hA_.mono ?_); clear hA_; rintro e w8 ⟨rfl, h8⟩; clear HI; have HI := Lib.hid (show TwI w a b Sa' Sb' w8 from h8); clear h8))
          | (go_at_call 25; first
              | (have hA_ := act_remove (i := 0) (b := a) (S := Sa) (S' := Sa') (nm := nm) (tx := f5) (n := f3) HI.out rfl HG2.out.ga (by have := HG2.out.hc; omega) HG2.out.hn (by omega) (by omega) HEA.out HSA.out; (with_reducible refine hA_.mono ?_); clear hA_; rintro e w8 ⟨rfl, h8⟩; clear HI; have HI := Lib.hid (show TwI w a b Sa' Sb w8 from h8); clear h8 hx3 hx5; obtain ⟨_, _, _, hx3, _, hx5⟩ := HCE.out _ HI.out.low)
              | (have hA_ := act_remove (i := 1) (b := b) (S := Sb) (S' := Sb') (nm := nm) (tx := f5) (n := f3) HI.out rfl HG2.out.gb (by have := HG2.out.hc; omega) HG2.out.hn (by omega) (by omega) HEB.out HSB.out; (with_reducible refine hA_.mono ?_); clear hA_; rintro e w8 ⟨rfl, h8⟩; clear HI; have HI := Lib.hid (show TwI w a b Sa' Sb' w8 from h8); clear h8))
          | (go_at_call 15; first
              | (have hA_ := act_syncDir (i := 0) (b := a) (S := Sa) (S' := Sa') (nm := nm) (tx := f5) (n := f3) HI.out rfl HG2.out.ga (by have := HG2.out.hc; omega) HG2.out.hn (by omega) HEA.out HSA.out; (with_reducible refine hA_.mono ?_); clear hA_; rintro e w8 ⟨rfl, h8⟩; clear HI; have HI := Lib.hid (show TwI w a b Sa' Sb w8 from h8); clear h8 hx3 hx5; obtain ⟨_, _, _, hx3, _, hx5⟩ := HCE.out _ HI.out.low)
              | (have hA_ := act_syncDir (i := 1) (b := b) (S := Sb) (S' := Sb') (nm := nm) (tx := f5) (n := f3) HI.out rfl HG2.out.gb (by have := HG2.out.hc; omega) HG2.out.hn (by omega) HEB.out HSB.out; (with_reducible refine hA_.mono ?_); clear hA_; rintro e w8 ⟨rfl, h8⟩; clear HI; have HI := Lib.hid (show TwI w a b Sa' Sb' w8 from h8); clear h8)))
        all_goals go_roundw
        all_goals first
          | (refine ⟨_, k + 1, rfl, by go_num, ⟨?_⟩⟩
             first
               | exact (show TwR w l1 a b (k + 1) f _ from ⟨by omega, by omega, _, _, _, HWB.out, HT.out, HGA.out, HGB.out, HI.out⟩)
               | exact (show TwR w l1 a b (k + 1) 1 _ from ⟨by omega, .inr rfl, _, _, _, HWB.out, HT.out, HGA.out, HGB0.out, HI.out⟩))
          | (simp [intOf]; omega)
      · obtain ⟨hk1, hf, c, Sa, Sb, hcb, htw, hga, hgb, hI⟩ := HF.out
        have hc2 : c ≤ 100000 := by omega
        have ho := hgb.ops
        have hkl := hgb.names.len
        have hkc := (hgb.crashD 3 [1, 2, 3]).names.len
        have HGA := Lib.hid hga
        have HGB := Lib.hid hgb
        have HI := Lib.hid (show Lot w [dsk w.heap.size a Sa, dsk w.heap.size b Sb] wr from hI)
        obtain ⟨_, _, q, hq, _⟩ := htw
        obtain ⟨SC, hSb⟩ : ∃ S, crashD Sb 3 [1, 2, 3] = S := ⟨_, rfl⟩
        have HSA := Lib.hid (show crashD Sa 3 [1, 2, 3] = SC by rw [hq, tw_crash, hSb])
        have HSB := Lib.hid hSb
        have HGC := Lib.hid (show Good c SC by rw [← hSb]; exact hgb.crashD 3 [1, 2, 3])
        obtain ⟨ks, hks⟩ : ∃ x, keysN Sb.names = x := ⟨_, rfl⟩
        obtain ⟨kc, hkc2⟩ : ∃ x, keysN SC.names = x := ⟨_, rfl⟩
        obtain ⟨u, hu⟩ : ∃ x, usedD SC = x := ⟨_, rfl⟩
        obtain ⟨o, hoo⟩ : ∃ x, Sb.ops = x := ⟨_, rfl⟩
        have HKA := Lib.hid (show keysN Sa.names = ks by rw [hq]; exact hks)
        have HKB := Lib.hid hks
        have HKC := Lib.hid hkc2
        have HU := Lib.hid hu
        have HOA := Lib.hid (show Sa.ops = o + f by rw [hq, ← hoo]; rfl)
        have HOB := Lib.hid hoo
        have hks2 : ks.length ≤ 2000 := by rw [← hks]; unfold keysN; rw [List.length_map]; omega
        have hkc3 : kc.length ≤ 2000 := by rw [← hkc2, ← hSb]; unfold keysN; rw [List.length_map]; omega
        obtain ⟨k1, hs1⟩ := same_is ks (by omega)
        obtain ⟨k2, hs2⟩ := same_is kc (by omega)
        have HS1 := Lib.hid hs1
        have HS2 := Lib.hid hs2
        rw [hoo] at ho
        have hf2 : 0 ≤ f ∧ f ≤ 1 := by omega
        obtain ⟨hf00, hf01⟩ := hf2
        obtain ⟨ho0, ho1⟩ := ho
        have ho2 : o ≤ 2000 := by omega
        clear HF hk1 hf hcb hga hgb hI hq hSb hks hkc2 hu hoo hkl hkc hs1 hs2 ho1 hks2 hkc3
        go_wp2_with (first
          | (go_at_call 16; first
              | (have hA_ := lot_crash3 (i := 0) (b := a) (S := Sa) HI.out rfl HGA.out hc2 3 HSA.out; (with_reducible refine hA_.mono ?_); clear hA_; rintro e w6 ⟨b2, rfl, h6⟩; clear HI; have HI := Lib.hid (show Lot w [dsk w.heap.size a Sa, dsk w.heap.size b Sb, dsk w.heap.size b2 SC] w6 from h6); clear h6)
              | (have hA_ := lot_crash3 (i := 1) (b := b) (S := Sb) HI.out rfl HGB.out hc2 3 HSB.out; (with_reducible refine hA_.mono ?_); clear hA_; rintro e w7 ⟨b3, rfl, h6⟩; clear HI; have HI := Lib.hid (show Lot w [dsk w.heap.size a Sa, dsk w.heap.size b Sb, dsk w.heap.size b2 SC, dsk w.heap.size b3 SC] w7 from h6); clear h6))
          | (go_at_call 27; first
              | (have hA_ := lot_list (i := 0) (b := a) (S := Sa) HI.out rfl HGA.out hc2 HKA.out; (with_reducible refine hA_.mono ?_); clear hA_; rintro e w9 ⟨AA, cap1, rfl, hC1, hcap1, h9, hb9⟩; clear HI; have HI := Lib.hid h9; have HC1 := Lib.hid (And.intro hC1 hcap1); clear hC1 hcap1 h9 hb9)
              | (have hA_ := lot_list (i := 1) (b := b) (S := Sb) HI.out rfl HGB.out hc2 HKB.out; (with_reducible refine hA_.mono ?_); clear hA_; rintro e w9 ⟨AB, cap2, rfl, hC2, hcap2, h9, hb9⟩; clear HI; have HI := Lib.hid h9; have HC2 := Lib.hid (And.intro (Kd.C_below HC1.out.1 hb9) (And.intro HC1.out.2 (And.intro hC2 hcap2))); clear hC2 hcap2 h9 hb9)
              | (have hA_ := lot_list (i := 2) (b := b2) (S := SC) HI.out rfl HGC.out hc2 HKC.out; (with_reducible refine hA_.mono ?_); clear hA_; rintro e w9 ⟨AC, cap3, rfl, hC1, hcap1, h9, hb9⟩; clear HI; have HI := Lib.hid h9; have HC3 := Lib.hid (And.intro hC1 hcap1); clear hC1 hcap1 h9 hb9)
              | (have hA_ := lot_list (i := 3) (b := b3) (S := SC) HI.out rfl HGC.out hc2 HKC.out; (with_reducible refine hA_.mono ?_); clear hA_; rintro e w9 ⟨AD, cap4, rfl, hC2, hcap2, h9, hb9⟩; clear HI; have HI := Lib.hid h9; have HC4 := Lib.hid (And.intro (Kd.C_below HC3.out.1 hb9) (And.intro HC3.out.2 (And.intro hC2 hcap2))); clear hC2 hcap2 h9 hb9))
          | (go_at_call 26; first
              | ((with_reducible refine (postroomlaw7_same.calls k1 AA cap1 ks AB cap2 ks true _ HC2.out.1 HC2.out.2.1 HC2.out.2.2.1 HC2.out.2.2.2 HS1.out).mono ?_); rintro e w9 ⟨rfl, hd9⟩; have n0_ := Lib.hid (HI.out.below hd9.below); clear HI hd9; have HI := n0_; clear n0_)
              | ((with_reducible refine (postroomlaw7_same.calls k2 AC cap3 kc AD cap4 kc true _ HC4.out.1 HC4.out.2.1 HC4.out.2.2.1 HC4.out.2.2.2 HS2.out).mono ?_); rintro e w9 ⟨rfl, hd9⟩; have n0_ := Lib.hid (HI.out.below hd9.below); clear HI hd9; have HI := n0_; clear n0_))
          | (go_at_call 19; first
              | (have hA_ := lot_used (i := 2) (b := b2) (S := SC) HI.out rfl HGC.out hc2; rw [HU.out] at hA_; (with_reducible refine hA_.mono ?_); clear hA_; rintro e w9 ⟨rfl, h9⟩; clear HI; have HI := Lib.hid h9; clear h9)
              | (have hA_ := lot_used (i := 3) (b := b3) (S := SC) HI.out rfl HGC.out hc2; rw [HU.out] at hA_; (with_reducible refine hA_.mono ?_); clear hA_; rintro e w9 ⟨rfl, h9⟩; clear HI; have HI := Lib.hid h9; clear h9))
          | (go_at_call 28; first
              | (have hA_ := lot_ops (i := 0) (b := a) (S := Sa) HI.out rfl; rw [HOA.out] at hA_; (with_reducible refine hA_.mono ?_); clear hA_; rintro e w9 ⟨rfl, rfl⟩)
              | (have hA_ := lot_ops (i := 1) (b := b) (S := Sb) HI.out rfl; rw [HOB.out] at hA_; (with_reducible refine hA_.mono ?_); clear hA_; rintro e w9 ⟨rfl, rfl⟩)))
        go_ret
        exact ⟨rfl, HI.out.low⟩
end Go.Proofs.Ytolbicncdookmaa.XDsk
namespace Go.Proofs.Ytolbicncdookmaa
theorem Pure.DiskFails : XDsk.postroomlaw7_DiskFails.Pure := trivial
end Go.Proofs.Ytolbicncdookmaa
