/- postroomlaw10.shown of the given program, where it answers true: chapter 10's example. Conditions: what it makes is what the chapter shows. -/
import Derived.Test.YthhmpjapnkilcaaDoorGMono
import Derived.Test.YthhmpjapnkilcaaDoorXLdgP1
import Derived.Test.YthhmpjapnkilcaaDoorXLdgP4
import Derived.Test.YthhmpjapnkilcaaDoorXLdgP5
namespace Go.Proofs.YthhmpjapnkilcaaDoor.XLdg
open Go Go.RowKit Go.Proofs.YthhmpjapnkilcaaDoorW.PrintWords Go.Proofs.YthhmpjapnkilcaaDoorW.PrintLast Go.Proofs.YthhmpjapnkilcaaDoorW.PrintMore Go.Proofs.YthhmpjapnkilcaaDoor.Num
set_option linter.unusedVariables false
set_option linter.unusedSimpArgs false
abbrev sA : ByteArray := ⟨#[97]⟩
def sd0 : List D := [⟨sA, 1, 1, [], 0, 0, 0⟩]
def sd1 : List D := [⟨sA, 1, 1, [2], 1, 0, 0⟩]
def sd2 : List D := [⟨sA, 1, 3, [], 1, 1, 0⟩]
theorem addr_zero (a : Addr) : a.add 0 = a := by
 obtain ⟨b, o, s⟩ := a
 cases s <;> simp [Addr.add]
theorem C_lit (W : World) (xs : List Int) (hm : xs.length ≤ 9223372036854775807) : Kd.C (Kd.int .u64) (W.alloc (.cells (encs (Value.int .u64) xs).toArray 24)) (some ⟨W.heap.size, 0, none⟩) xs.length xs :=
 (Kd.R_reads' (Kd.R_of_own (h1 := fun _ => rfl) (ok := fun _ => True) (own_lit_of (enc := Value.int .u64) W 0 24 xs (Nat.zero_le _) hm) (fun _ _ => trivial))).2.2
def shownOk (k : Nat) : Prop := ledger_Join.f 1 1 [] sA = some (1, 1, sd0, 0) ∧ ledger_Add.f 1 1 sd0 = some (1, 2, sd0) ∧ ledger_Add.f 1 2 sd0 = some (1, 3, sd0) ∧ ledger_Add.f 1 3 sd0 = some (1, 4, sd0) ∧ ledger_Done.f k 1 4 sd0 sA 2 97 = some (1, 4, sd1, 0) ∧ ledger_Evict.f k 1 4 sd1 3 = some (3, 4, sd2, 0) ∧
 ledger_Pending.f k 1 4 sd1 sA = some [1, 3] ∧ postroomref10_Same.f k [1, 3] [1, 3] = some true ∧ ledger_Pending.f k 3 4 sd2 sA = some [3] ∧ postroomref10_Same.f k [3] [3] = some true
set_option maxRecDepth 1000000 in
theorem shown_60 : shownOk 60 := ⟨by kernel_rfl, by kernel_rfl, by kernel_rfl, by kernel_rfl, by kernel_rfl, by kernel_rfl, by kernel_rfl, by kernel_rfl, by kernel_rfl, by kernel_rfl⟩
theorem shown_ok (k : Nat) (hk : 60 ≤ k) : shownOk k := by
 obtain ⟨h1, h2, h3, h4, h5, h6, h7, h8, h9, h10⟩ := shown_60
 exact ⟨h1, h2, h3, h4, at_rounds (g := fun k => ledger_Done.f k 1 4 sd0 sA 2 97) (fun k => ledger_Done.mono 1 4 sd0 sA 2 97 k) hk h5, at_rounds (g := fun k => ledger_Evict.f k 1 4 sd1 3) (fun k => ledger_Evict.mono 1 4 sd1 3 k) hk h6, at_rounds (g := fun k => ledger_Pending.f k 1 4 sd1 sA) (fun k => ledger_Pending.mono 1 4 sd1 sA k) hk h7, at_rounds (g := fun k => postroomref10_Same.f k [1, 3] [1, 3]) (fun k => postroomref10_Same.mono [1, 3] [1, 3] k) hk h8, at_rounds (g := fun k => ledger_Pending.f k 3 4 sd2 sA) (fun k => ledger_Pending.mono 3 4 sd2 sA k) hk h9, at_rounds (g := fun k => postroomref10_Same.f k [3] [3]) (fun k => postroomref10_Same.mono [3] [3] k) hk h10⟩
def postroomlaw10_shown.f (k : Nat) : Option Bool := if 60 ≤ k then some true else none
set_option maxHeartbeats 8000000 in
set_option maxRecDepth 1000000 in
theorem postroomlaw10_shown.calls (k : Nat) (r : Bool) (w : World) (h : postroomlaw10_shown.f k = some r) :
  Calls Tryd.prog 10 #[] w fun e w' => e = .returned (.bool r) ∧ Below w.heap.size w w' := by
 unfold postroomlaw10_shown.f at h
 split at h
 ·rename_i hh
  injection h with h
  subst h
  obtain ⟨h1, h2, h3, h4, h5, h6, h7, h8, h9, h10⟩ := shown_ok k hh
  have H1 := Lib.hid h1; have H2 := Lib.hid h2; have H3 := Lib.hid h3; have H4 := Lib.hid h4; have H5 := Lib.hid h5; have H6 := Lib.hid h6; have H7 := Lib.hid h7; have H8 := Lib.hid h8; have H9 := Lib.hid h9; have H10 := Lib.hid h10
  clear h1 h2 h3 h4 h5 h6 h7 h8 h9 h10
  go_enter Tryd.func10, Tryd.ntmps10
  go_wp2_with fail
  refine (ledger_New.calls 1 1 [] w rfl).mono ?_
  rintro e w1 ⟨v1, rfl, hS1, hb1⟩
  have hV1 := Kd.V_bound (Kd.S_V (base' := w.heap.size) hS1)
  obtain ⟨A1, c1, rfl⟩ := Kd.V_slice hV1
  have HV1 := Aside0.mk hV1
  have HB1 := Aside0.mk hb1
  clear hS1 hV1 hb1
  go_wp2_with fail
  refine (ledger_Join.calls 1 1 _ A1 c1 [] sA 1 1 sd0 0 w1 HV1.out H1.out).mono ?_
  rintro e w2 ⟨v2, rfl, hN2, hb2⟩
  have hV2 := Kd.V_bound (Kd.N_V (base' := w.heap.size) hN2)
  obtain ⟨A2, c2, rfl⟩ := Kd.V_slice hV2
  have HV2 := Aside0.mk (Kd.V_mono (ok' := fun k_ => k_ < w2.heap.size) hV2 (fun k_ hk_ => hk_.2))
  have HB2 := Aside0.mk (below_step HB1.out hb2)
  clear hN2 hV2 hb2 HV1
  go_wp2_with fail
  have HX3 := Aside0.mk (blk_new w2 (.cells #[.int .u64 1, .int .u64 1, .slice A2 sd0.length c2] 27))
  have HV3 := Aside0.mk (Kd.V_mono (ok' := fun k_ => k_ ≠ w2.heap.size) (Kd.V_alloc HV2.out (.cells #[.int .u64 1, .int .u64 1, .slice A2 sd0.length c2] 27)) (fun k_ hk_ => Nat.ne_of_lt hk_))
  have HB3 := Aside0.mk (below_alloc HB2.out (.cells #[.int .u64 1, .int .u64 1, .slice A2 sd0.length c2] 27))
  have HG := Aside0.mk (HB2.out.size)
  clear HV2 HB2 HB1
  generalize (w2.alloc (.cells #[.int .u64 1, .int .u64 1, .slice A2 sd0.length c2] 27)) = w3 at HX3 HV3 HB3 ⊢
  generalize w2.heap.size = gl at HX3 HV3 HG ⊢
  obtain ⟨A3, c3, e3⟩ : ∃ A c, (Value.slice A2 sd0.length c2) = .slice A sd0.length c := ⟨_, _, rfl⟩
  rw [e3] at HV3 HX3 ⊢
  clear e3
  refine (ledger_Add.calls 1 1 (fun k_ => k_ ≠ gl) A3 c3 sd0 1 2 sd0 w3 HV3.out H2.out).mono ?_
  rintro e w4 ⟨v4, rfl, hN4, hb4⟩
  have hV4 := Kd.V_mono (ok' := fun k_ => k_ ≠ gl) (Kd.N_V (base' := w.heap.size) hN4) (fun k_ hk_ => hk_.elim id (fun h_ => Nat.ne_of_gt (Nat.lt_of_lt_of_le (blk_lt HX3.out) h_)))
  obtain ⟨A4, c4, rfl⟩ := Kd.V_slice hV4
  have HV4 := Aside0.mk hV4
  have HB4 := Aside0.mk (below_step HB3.out hb4)
  have HX4 := Aside0.mk (blk_below HX3.out hb4)
  clear hN4 hV4 hb4
  go_wp2_with fail
  refine (ledger_Add.calls 1 2 (fun k_ => k_ ≠ gl) A4 c4 sd0 1 3 sd0 w4 HV4.out H3.out).mono ?_
  rintro e w5 ⟨v5, rfl, hN5, hb5⟩
  have hV5 := Kd.V_mono (ok' := fun k_ => k_ ≠ gl) (Kd.N_V (base' := w.heap.size) hN5) (fun k_ hk_ => hk_.elim id (fun h_ => Nat.ne_of_gt (Nat.lt_of_lt_of_le (blk_lt HX4.out) h_)))
  obtain ⟨A5, c5, rfl⟩ := Kd.V_slice hV5
  have HV5 := Aside0.mk hV5
  have HB5 := Aside0.mk (below_step HB4.out hb5)
  have HX5 := Aside0.mk (blk_below HX4.out hb5)
  clear hN5 hV5 hb5
  go_wp2_with fail
  refine (ledger_Add.calls 1 3 (fun k_ => k_ ≠ gl) A5 c5 sd0 1 4 sd0 w5 HV5.out H4.out).mono ?_
  rintro e w6 ⟨v6, rfl, hN6, hb6⟩
  have hV6 := Kd.V_mono (ok' := fun k_ => k_ ≠ gl) (Kd.N_V (base' := w.heap.size) hN6) (fun k_ hk_ => hk_.elim id (fun h_ => Nat.ne_of_gt (Nat.lt_of_lt_of_le (blk_lt HX5.out) h_)))
  obtain ⟨A6, c6, rfl⟩ := Kd.V_slice hV6
  have HV6 := Aside0.mk hV6
  have HB6 := Aside0.mk (below_step HB5.out hb6)
  have HX6 := Aside0.mk (blk_below HX5.out hb6)
  clear hN6 hV6 hb6
  have hl0 : w6.cell? ⟨gl, 0, none⟩ = some (.int .u64 1) := (blk_cell HX6.out 0).trans rfl
  have hl1 : w6.cell? ⟨gl, 1, none⟩ = some (.int .u64 1) := (blk_cell HX6.out 1).trans rfl
  have hl2 : w6.cell? ⟨gl, 2, none⟩ = some (.slice A3 sd0.length c3) := (blk_cell HX6.out 2).trans rfl
  have hlf := blk_frozen HX6.out
  go_wp2_with fail
  have HV7 := Aside0.mk (Kd.V_far (p := ⟨gl, 2, none⟩) (Kd.V_far (p := ⟨gl, 1, none⟩) (Kd.V_far (p := ⟨gl, 0, none⟩) HV6.out (fun _ hk => hk) (.int .u64 1)) (fun _ hk => hk) (.int .u64 4)) (fun _ hk => hk) (.slice A6 sd0.length c6))
  have HB7 := Aside0.mk (((HB6.out.setCell (p := ⟨gl, 0, none⟩) HG.out (.int .u64 1)).setCell (p := ⟨gl, 1, none⟩) HG.out (.int .u64 4)).setCell (p := ⟨gl, 2, none⟩) HG.out (.slice A6 sd0.length c6))
  clear hl0 hl1 hl2 hlf HV3 HX3 HB3 HV4 HX4 HB4 HV5 HX5 HB5 HV6 HX6 HB6
  generalize (((w6.setCell ⟨gl, 0, none⟩ (.int .u64 1)).setCell ⟨gl, 1, none⟩ (.int .u64 4)).setCell ⟨gl, 2, none⟩ (.slice A6 sd0.length c6)) = w7 at HV7 HB7 ⊢
  refine (ledger_Done.calls k 1 4 (fun k_ => k_ ≠ gl) A6 c6 sd0 sA 2 97 1 4 sd1 0 w7 HV7.out H5.out).mono ?_
  rintro e w8 ⟨v8, rfl, hV8, hb8⟩
  obtain ⟨A8, c8, rfl⟩ := Kd.V_slice hV8
  have HV8 := Aside0.mk (Kd.V_alloc hV8 (.cells #[.int .u64 1, .int .u64 4, .slice A8 sd1.length c8] 27))
  have HB8 := Aside0.mk (below_alloc (below_step HB7.out hb8) (.cells #[.int .u64 1, .int .u64 4, .slice A8 sd1.length c8] 27))
  have HX8 := Aside0.mk (blk_new w8 (.cells #[.int .u64 1, .int .u64 4, .slice A8 sd1.length c8] 27))
  clear hV8 hb8 HV7 HB7
  go_wp2_with fail
  generalize (w8.alloc (.cells #[.int .u64 1, .int .u64 4, .slice A8 sd1.length c8] 27)) = w9 at HV8 HB8 HX8 ⊢
  generalize w8.heap.size = gm at HX8 ⊢
  refine (ledger_Evict.calls k 1 4 _ A8 c8 sd1 3 3 4 sd2 0 w9 HV8.out H6.out).mono ?_
  rintro e w10 ⟨v10, rfl, hV10, hb10⟩
  obtain ⟨A10, c10, rfl⟩ := Kd.V_slice hV10
  have HV10 := Aside0.mk (Kd.V_alloc hV10 (.cells #[.int .u64 3, .int .u64 4, .slice A10 sd2.length c10] 27))
  have HM10 := Aside0.mk (Kd.V_alloc (Kd.V_below HV8.out hb10) (.cells #[.int .u64 3, .int .u64 4, .slice A10 sd2.length c10] 27))
  have HB10 := Aside0.mk (below_alloc (below_step HB8.out hb10) (.cells #[.int .u64 3, .int .u64 4, .slice A10 sd2.length c10] 27))
  have HX10 := Aside0.mk (blk_alloc (blk_below HX8.out hb10) (.cells #[.int .u64 3, .int .u64 4, .slice A10 sd2.length c10] 27))
  have HY10 := Aside0.mk (blk_new w10 (.cells #[.int .u64 3, .int .u64 4, .slice A10 sd2.length c10] 27))
  have hm0 : (w10.alloc (.cells #[.int .u64 3, .int .u64 4, .slice A10 sd2.length c10] 27)).cell? ⟨gm, 0, none⟩ = some (.int .u64 1) := (blk_cell HX10.out 0).trans rfl
  have hm1 : (w10.alloc (.cells #[.int .u64 3, .int .u64 4, .slice A10 sd2.length c10] 27)).cell? ⟨gm, 1, none⟩ = some (.int .u64 4) := (blk_cell HX10.out 1).trans rfl
  have hm2 : (w10.alloc (.cells #[.int .u64 3, .int .u64 4, .slice A10 sd2.length c10] 27)).cell? ⟨gm, 2, none⟩ = some (.slice A8 sd1.length c8) := (blk_cell HX10.out 2).trans rfl
  clear hV10 hb10 HV8 HB8 HX8
  go_wp2_with fail
  clear hm0 hm1 hm2
  generalize (w10.alloc (.cells #[.int .u64 3, .int .u64 4, .slice A10 sd2.length c10] 27)) = w10b at HV10 HM10 HB10 HX10 HY10 ⊢
  generalize w10.heap.size = gn at HY10 ⊢
  refine (ledger_Pending.calls k 1 4 A8 c8 sd1 sA [1, 3] w10b (Kd.V_reads' HM10.out).2.2 (Kd.V_reads' HM10.out).2.1 H7.out).mono ?_
  rintro e w11 ⟨v11, rfl, hR11, hb11⟩
  obtain ⟨A11, c11, rfl⟩ := Kd.R_slice hR11
  have HR11 := Aside0.mk hR11
  have hbq11 := below_alloc hb11 (.cells #[.int .u64 1, .int .u64 3] 24)
  have HC11 := Aside0.mk (show Kd.C (Kd.int .u64) (w11.alloc (.cells #[.int .u64 1, .int .u64 3] 24)) (some ⟨w11.heap.size, 0, none⟩) [1, 3].length [1, 3] from C_lit w11 [1, 3] (by decide))
  have HM11 := Aside0.mk (Kd.V_below HM10.out hbq11)
  have HV11 := Aside0.mk (Kd.V_below HV10.out hbq11)
  have HB11 := Aside0.mk (below_step HB10.out hbq11)
  have HX11 := Aside0.mk (blk_below HX10.out hbq11)
  have HY11 := Aside0.mk (blk_below HY10.out hbq11)
  have HR11b := Aside0.mk (Kd.R_alloc HR11.out (.cells #[.int .u64 1, .int .u64 3] 24))
  clear hR11 hb11 hbq11 HR11
  go_wp2_with fail
  generalize (w11.alloc (.cells #[.int .u64 1, .int .u64 3] 24)) = w11b at HC11 HM11 HV11 HB11 HX11 HY11 HR11b ⊢
  generalize w11.heap.size = q11 at HC11 ⊢
  refine (postroomref10_Same.calls k A11 c11 [1, 3] (some ⟨q11, 0, none⟩) 2 [1, 3] true w11b (Kd.R_reads' HR11b.out).2.2 (Kd.R_reads' HR11b.out).2.1 HC11.out (Nat.le_refl _) H8.out).mono ?_
  rintro e w12 ⟨rfl, hd12⟩
  have hbq12 := hd12.below
  have HM12 := Aside0.mk (Kd.V_below HM11.out hbq12)
  have HV12 := Aside0.mk (Kd.V_below HV11.out hbq12)
  have HB12 := Aside0.mk (below_step HB11.out hbq12)
  have HX12 := Aside0.mk (blk_below HX11.out hbq12)
  have HY12 := Aside0.mk (blk_below HY11.out hbq12)
  have hk0 : w12.cell? ⟨gn, 0, none⟩ = some (.int .u64 3) := (blk_cell HY12.out 0).trans rfl
  have hk1 : w12.cell? ⟨gn, 1, none⟩ = some (.int .u64 4) := (blk_cell HY12.out 1).trans rfl
  have hk2 : w12.cell? ⟨gn, 2, none⟩ = some (.slice A10 sd2.length c10) := (blk_cell HY12.out 2).trans rfl
  clear hbq12 hd12
  go_wp2_with fail
  clear hk0 hk1 hk2
  refine (ledger_Pending.calls k 3 4 A10 c10 sd2 sA [3] w12 (Kd.V_reads' HV12.out).2.2 (Kd.V_reads' HV12.out).2.1 H9.out).mono ?_
  rintro e w13 ⟨v13, rfl, hR13, hb13⟩
  obtain ⟨A13, c13, rfl⟩ := Kd.R_slice hR13
  have HR13 := Aside0.mk hR13
  have hbq13 := below_alloc hb13 (.cells #[.int .u64 3] 24)
  have HC13 := Aside0.mk (show Kd.C (Kd.int .u64) (w13.alloc (.cells #[.int .u64 3] 24)) (some ⟨w13.heap.size, 0, none⟩) [3].length [3] from C_lit w13 [3] (by decide))
  have HM13 := Aside0.mk (Kd.V_below HM12.out hbq13)
  have HV13 := Aside0.mk (Kd.V_below HV12.out hbq13)
  have HB13 := Aside0.mk (below_step HB12.out hbq13)
  have HX13 := Aside0.mk (blk_below HX12.out hbq13)
  have HY13 := Aside0.mk (blk_below HY12.out hbq13)
  have HR13b := Aside0.mk (Kd.R_alloc HR13.out (.cells #[.int .u64 3] 24))
  clear hR13 hb13 hbq13 HR13
  go_wp2_with fail
  generalize (w13.alloc (.cells #[.int .u64 3] 24)) = w13b at HC13 HM13 HV13 HB13 HX13 HY13 HR13b ⊢
  generalize w13.heap.size = q13 at HC13 ⊢
  refine (postroomref10_Same.calls k A13 c13 [3] (some ⟨q13, 0, none⟩) 1 [3] true w13b (Kd.R_reads' HR13b.out).2.2 (Kd.R_reads' HR13b.out).2.1 HC13.out (Nat.le_refl _) H10.out).mono ?_
  rintro e w14 ⟨rfl, hd14⟩
  have hbq14 := hd14.below
  have HM14 := Aside0.mk (Kd.V_below HM13.out hbq14)
  have HV14 := Aside0.mk (Kd.V_below HV13.out hbq14)
  have HB14 := Aside0.mk (below_step HB13.out hbq14)
  have HX14 := Aside0.mk (blk_below HX13.out hbq14)
  have HY14 := Aside0.mk (blk_below HY13.out hbq14)
  have hk0 : w14.cell? ⟨gn, 0, none⟩ = some (.int .u64 3) := (blk_cell HY14.out 0).trans rfl
  have hk1 : w14.cell? ⟨gn, 1, none⟩ = some (.int .u64 4) := (blk_cell HY14.out 1).trans rfl
  have hk2 : w14.cell? ⟨gn, 2, none⟩ = some (.slice A10 sd2.length c10) := (blk_cell HY14.out 2).trans rfl
  clear hbq14 hd14
  obtain ⟨ad, A3', c3', e0, hx0, hx1, hx2, hx3, hx4, hx5, hx6, _, _⟩ := at_T37 (Kd.V_reads' HV14.out).2.2 0 (by decide) (by decide)
  subst e0
  have hx4' : w14.cell? ⟨(ad.add (Int.toNat 0 * 7)).block, (ad.add (Int.toNat 0 * 7)).off + 4, none⟩ = some (.int .u64 1) := hx4
  have hx5' : w14.cell? ⟨(ad.add (Int.toNat 0 * 7)).block, (ad.add (Int.toNat 0 * 7)).off + 5, none⟩ = some (.int .u64 1) := hx5
  have hx4'' : w14.cell? ⟨ad.block, ad.off + 4, none⟩ = some (.int .u64 1) := by simpa [addr_zero] using hx4'
  have hx5'' : w14.cell? ⟨ad.block, ad.off + 5, none⟩ = some (.int .u64 1) := by simpa [addr_zero] using hx5'
  clear hx0 hx1 hx2 hx3 hx4 hx5 hx6 hx4' hx5'
  have hln : sd2.length = 1 := rfl
  rw [hln] at hk2
  go_wp2
  go_ret
  exact ⟨rfl, HB14.out⟩
 ·cases h
end Go.Proofs.YthhmpjapnkilcaaDoor.XLdg
