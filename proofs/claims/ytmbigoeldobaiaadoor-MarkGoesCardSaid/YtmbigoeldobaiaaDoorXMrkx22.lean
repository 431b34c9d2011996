/- What the functions of the translation answer, each as a plain Lean function, and that the code comes to it; for a law: its row. Conditions: none but those that each theorem names. Written by a program of this session (wip/xp). -/
import Derived.Test.YtmbigoeldobaiaaDoorXMrkP1
import Derived.Test.YtmbigoeldobaiaaDoorXMrkP2
import Derived.Test.YtmbigoeldobaiaaDoorXMrkP3
import Derived.Test.YtmbigoeldobaiaaDoorGLeave
import Derived.Test.YtmbigoeldobaiaaDoorGMonoL
namespace Go.Proofs.YtmbigoeldobaiaaDoor.XMrk
open Go.RowKit Go.Proofs.YtmbigoeldobaiaaDoorW.PrintWords Go.Proofs.YtmbigoeldobaiaaDoorW.PrintLast Go.Proofs.YtmbigoeldobaiaaDoorW.PrintMore
attribute [local go_sem] max2_int min2_int max_two min_two max_three min_three max_four min_four   -- for this text's walks alone
theorem cx22_bc3 {w : World} {g : Nat} {t : TypeId} {x0 x1 x2 : Value} (h : w.heap[g]? = some (.cells #[x0, x1, x2] t (0, 0))) : w.cell? ⟨g, 0, none⟩ = some x0 ∧ w.cell? ⟨g, 1, none⟩ = some x1 ∧ w.cell? ⟨g, 2, none⟩ = some x2 ∧ w.frozen? ⟨g, 0, none⟩ = false ∧ w.frozen? ⟨g, 1, none⟩ = false ∧ w.frozen? ⟨g, 2, none⟩ = false :=
 ⟨(blk_cell h 0).trans rfl, (blk_cell h 1).trans rfl, (blk_cell h 2).trans rfl, blk_frozen h 0, blk_frozen h 1, blk_frozen h 2⟩
theorem zx22_20 {p : Prop} (h : p := by first | rfl | (simp; done) | (simp [*]; done)) : p := h
theorem zx22_18 {p : Prop} (h : p := by first | (with_reducible assumption) | assumption) : p := h
theorem zx22_5 {p : Prop} (h : p := by (with_reducible repeat (first | apply Kd.R_alloc | apply Kd.R_drewN | apply Kd.R_drew)); exact bD.out) : p := h
theorem zx22_15 {p : Prop} (h : p := by (with_reducible repeat (first | apply Kd.V_alloc | apply Kd.V_drewN | apply Kd.V_drew)); exact bg.out) : p := h
theorem zx22_1 {p : Prop} (h : p := by (with_reducible repeat (first | refine blk_drewN ?_ _ | refine blk_drew ?_ | refine blk_alloc ?_ _)); exact bn.out) : p := h
theorem zx22_2 {p : Prop} (h : p := by (with_reducible repeat (first | refine blk_drewN ?_ _ | refine blk_drew ?_ | refine blk_alloc ?_ _)); exact be.out) : p := h
theorem zx22_3 {p : Prop} (h : p := by (with_reducible repeat (first | refine blk_drewN ?_ _ | refine blk_drew ?_ | refine blk_alloc ?_ _)); exact bj.out) : p := h
theorem zx22_22 {p : Prop} (h : p := by repeat (first | (with_reducible first | exact HB.out | apply below_alloc | apply pw_below_drewN | apply below_drew1) | exact HB.out)) : p := h
theorem zx22_21 {p : Prop} (h : p := by (with_reducible repeat (first | apply Kd.R_alloc | apply Kd.R_drewN | apply Kd.R_drew)); exact Kd.R_mono b2.out (fun _ hk => hk.1)) : p := h
theorem zx22_4 {p : Prop} (h : p := by (try simp only [List.map_toArray, List.map_cons, List.map_nil]); first | done | rfl | (simp only [List.length_drop, List.length_take]; rfl)) : p := h
theorem zx22_17 {p : Prop} (h : p := by repeat (first | (with_reducible first | exact HB.out | apply below_alloc | apply pw_below_drewN | apply below_drew1 | refine below_set ?_ b1.out) | exact HB.out)) : p := h
theorem zx22_16 {p : Prop} (h : p := by repeat (first | (with_reducible first | exact HB.out | apply below_alloc | apply pw_below_drewN | apply below_drew1 | refine below_set ?_ b1.out | refine below_set ?_ b3.out) | exact HB.out)) : p := h
theorem zx22_19 {p : Prop} (h : p := by (with_reducible repeat (first | apply Kd.V_alloc | apply Kd.V_drewN | apply Kd.V_drew)); exact Kd.V_mono bg.out (fun _ hk => ⟨hk.1.1, ⟨hk.1.2.1, ⟨hk.2, ⟨hk.1.2.2.1, ⟨hk.1.2.2.2.1, hk.1.2.2.2.2⟩⟩⟩⟩⟩)) : p := h
theorem zx22_0 {p : Prop} (h : p := by repeat (first | (with_reducible first | exact HB.out | apply below_alloc | apply pw_below_drewN | apply below_drew1 | refine below_set ?_ b1.out | refine below_set ?_ b3.out | refine below_set ?_ b7.out) | exact HB.out)) : p := h
theorem zx22_6 {p : Prop} (h : p := by first | exact Nat.ne_of_lt (Nat.lt_of_lt_of_le (by have := World.block_lt_of_cell? _ _ bw; first | rwa [add_block] at this | exact this) bB.out) | (rw [add_block]; exact Nat.ne_of_lt (Nat.lt_of_lt_of_le (by have := World.block_lt_of_cell? _ _ bw; first | rwa [add_block] at this | exact this) bB.out)) | (show (Addr.add _ _).block ≠ _; rw [add_block]; exact Nat.ne_of_lt (Nat.lt_of_lt_of_le (by have := World.block_lt_of_cell? _ _ bw; first | rwa [add_block] at this | exact this) bB.out)) | (dsimp only; exact Nat.ne_of_lt (Nat.lt_of_lt_of_le (by have := World.block_lt_of_cell? _ _ bw; first | rwa [add_block] at this | exact this) bB.out))) : p := h
theorem zx22_7 {p : Prop} (h : p := by first | exact Nat.ne_of_lt (Nat.lt_of_lt_of_le (by have := World.block_lt_of_cell? _ _ bu; first | rwa [add_block] at this | exact this) bB.out) | (rw [add_block]; exact Nat.ne_of_lt (Nat.lt_of_lt_of_le (by have := World.block_lt_of_cell? _ _ bu; first | rwa [add_block] at this | exact this) bB.out)) | (show (Addr.add _ _).block ≠ _; rw [add_block]; exact Nat.ne_of_lt (Nat.lt_of_lt_of_le (by have := World.block_lt_of_cell? _ _ bu; first | rwa [add_block] at this | exact this) bB.out)) | (dsimp only; exact Nat.ne_of_lt (Nat.lt_of_lt_of_le (by have := World.block_lt_of_cell? _ _ bu; first | rwa [add_block] at this | exact this) bB.out))) : p := h
theorem zx22_8 {p : Prop} (h : p := by first | exact Nat.ne_of_lt (Nat.lt_of_lt_of_le (by have := World.block_lt_of_cell? _ _ br; first | rwa [add_block] at this | exact this) bB.out) | (rw [add_block]; exact Nat.ne_of_lt (Nat.lt_of_lt_of_le (by have := World.block_lt_of_cell? _ _ br; first | rwa [add_block] at this | exact this) bB.out)) | (show (Addr.add _ _).block ≠ _; rw [add_block]; exact Nat.ne_of_lt (Nat.lt_of_lt_of_le (by have := World.block_lt_of_cell? _ _ br; first | rwa [add_block] at this | exact this) bB.out)) | (dsimp only; exact Nat.ne_of_lt (Nat.lt_of_lt_of_le (by have := World.block_lt_of_cell? _ _ br; first | rwa [add_block] at this | exact this) bB.out))) : p := h
theorem zx22_9 {p : Prop} (h : p := by first | exact Nat.ne_of_lt (Nat.lt_of_lt_of_le (by have := World.block_lt_of_cell? _ _ bq; first | rwa [add_block] at this | exact this) bB.out) | (rw [add_block]; exact Nat.ne_of_lt (Nat.lt_of_lt_of_le (by have := World.block_lt_of_cell? _ _ bq; first | rwa [add_block] at this | exact this) bB.out)) | (show (Addr.add _ _).block ≠ _; rw [add_block]; exact Nat.ne_of_lt (Nat.lt_of_lt_of_le (by have := World.block_lt_of_cell? _ _ bq; first | rwa [add_block] at this | exact this) bB.out)) | (dsimp only; exact Nat.ne_of_lt (Nat.lt_of_lt_of_le (by have := World.block_lt_of_cell? _ _ bq; first | rwa [add_block] at this | exact this) bB.out))) : p := h
theorem zx22_10 {p : Prop} (h : p := by first | exact Nat.ne_of_lt (Nat.lt_of_lt_of_le (by have := World.block_lt_of_cell? _ _ bp; first | rwa [add_block] at this | exact this) bB.out) | (rw [add_block]; exact Nat.ne_of_lt (Nat.lt_of_lt_of_le (by have := World.block_lt_of_cell? _ _ bp; first | rwa [add_block] at this | exact this) bB.out)) | (show (Addr.add _ _).block ≠ _; rw [add_block]; exact Nat.ne_of_lt (Nat.lt_of_lt_of_le (by have := World.block_lt_of_cell? _ _ bp; first | rwa [add_block] at this | exact this) bB.out)) | (dsimp only; exact Nat.ne_of_lt (Nat.lt_of_lt_of_le (by have := World.block_lt_of_cell? _ _ bp; first | rwa [add_block] at this | exact this) bB.out))) : p := h
theorem zx22_11 {p : Prop} (h : p := by first | exact Nat.ne_of_lt (Nat.lt_of_lt_of_le (by have := World.block_lt_of_cell? _ _ bo; first | rwa [add_block] at this | exact this) bB.out) | (rw [add_block]; exact Nat.ne_of_lt (Nat.lt_of_lt_of_le (by have := World.block_lt_of_cell? _ _ bo; first | rwa [add_block] at this | exact this) bB.out)) | (show (Addr.add _ _).block ≠ _; rw [add_block]; exact Nat.ne_of_lt (Nat.lt_of_lt_of_le (by have := World.block_lt_of_cell? _ _ bo; first | rwa [add_block] at this | exact this) bB.out)) | (dsimp only; exact Nat.ne_of_lt (Nat.lt_of_lt_of_le (by have := World.block_lt_of_cell? _ _ bo; first | rwa [add_block] at this | exact this) bB.out))) : p := h
theorem zx22_12 {p : Prop} (h : p := by first | exact Nat.ne_of_lt (Nat.lt_of_lt_of_le (by have := World.block_lt_of_cell? _ _ bY; first | rwa [add_block] at this | exact this) bB.out) | (rw [add_block]; exact Nat.ne_of_lt (Nat.lt_of_lt_of_le (by have := World.block_lt_of_cell? _ _ bY; first | rwa [add_block] at this | exact this) bB.out)) | (show (Addr.add _ _).block ≠ _; rw [add_block]; exact Nat.ne_of_lt (Nat.lt_of_lt_of_le (by have := World.block_lt_of_cell? _ _ bY; first | rwa [add_block] at this | exact this) bB.out)) | (dsimp only; exact Nat.ne_of_lt (Nat.lt_of_lt_of_le (by have := World.block_lt_of_cell? _ _ bY; first | rwa [add_block] at this | exact this) bB.out))) : p := h
theorem zx22_13 {p : Prop} (h : p := by first | exact Nat.ne_of_lt (Nat.lt_of_lt_of_le (by have := World.block_lt_of_cell? _ _ bX; first | rwa [add_block] at this | exact this) bB.out) | (rw [add_block]; exact Nat.ne_of_lt (Nat.lt_of_lt_of_le (by have := World.block_lt_of_cell? _ _ bX; first | rwa [add_block] at this | exact this) bB.out)) | (show (Addr.add _ _).block ≠ _; rw [add_block]; exact Nat.ne_of_lt (Nat.lt_of_lt_of_le (by have := World.block_lt_of_cell? _ _ bX; first | rwa [add_block] at this | exact this) bB.out)) | (dsimp only; exact Nat.ne_of_lt (Nat.lt_of_lt_of_le (by have := World.block_lt_of_cell? _ _ bX; first | rwa [add_block] at this | exact this) bB.out))) : p := h
theorem zx22_14 {p : Prop} (h : p := by first | exact Nat.ne_of_lt (Nat.lt_of_lt_of_le (by have := World.block_lt_of_cell? _ _ bW; first | rwa [add_block] at this | exact this) bB.out) | (rw [add_block]; exact Nat.ne_of_lt (Nat.lt_of_lt_of_le (by have := World.block_lt_of_cell? _ _ bW; first | rwa [add_block] at this | exact this) bB.out)) | (show (Addr.add _ _).block ≠ _; rw [add_block]; exact Nat.ne_of_lt (Nat.lt_of_lt_of_le (by have := World.block_lt_of_cell? _ _ bW; first | rwa [add_block] at this | exact this) bB.out)) | (dsimp only; exact Nat.ne_of_lt (Nat.lt_of_lt_of_le (by have := World.block_lt_of_cell? _ _ bW; first | rwa [add_block] at this | exact this) bB.out))) : p := h
set_option linter.unusedVariables false
set_option linter.unusedSimpArgs false

/-! ### postroomlaw11_run: function 18 -/
def postroomlaw11_run.l0 : Nat → List (S75) → Int → Int → Int → List (S55) → Option (Int × Int × (List (S55)))
 | 0, _, _, _, _, _ => none
 | k + 1, x0, x4, bM, bP, bO => if x4 < (x0.length : Int) then ((some (([(⟨#[97]⟩ : ByteArray), (⟨#[98]⟩ : ByteArray), (⟨#[99]⟩ : ByteArray), (⟨#[122, 111, 110, 101]⟩ : ByteArray)] : List ByteArray) : List ByteArray)).bind fun bz => (if 0 ≤ x4 then ((postroomlaw11_pick.f ((rd_T75 x0 x4).f1) 4).bind fun bG => (if 0 ≤ bG then (if bG < (bz.length : Int) then ((postroomlaw11_pick.f ((rd_T75 x0 x4).f0) 11).bind fun bI => (if bI < 4 then ((ledger_Add.f bM bP bO).bind fun bZ => (if 0 = 0 then (postroomlaw11_run.l0 k x0 (wrap64 (x4 + 1)) bZ.1 bZ.2.1 bZ.2.2) else (postroomlaw11_run.l0 k x0 (wrap64 (x4 + 1)) bM bP bO))) else (if bI = 4 then ((ledger_Join.f bM bP bO (rdOf ByteArray.empty bz bG)).bind fun bR => (if bR.2.2.2 = 0 then (postroomlaw11_run.l0 k x0 (wrap64 (x4 + 1)) bR.1 bR.2.1 bR.2.2.1) else (postroomlaw11_run.l0 k x0 (wrap64 (x4 + 1)) bM bP bO))) else (if bI = 5 then ((ledger_Leave.f bM bP bO (rdOf ByteArray.empty bz bG)).bind fun bQ => (if bQ.2.2.2 = 0 then (postroomlaw11_run.l0 k x0 (wrap64 (x4 + 1)) bQ.1 bQ.2.1 bQ.2.2.1) else (postroomlaw11_run.l0 k x0 (wrap64 (x4 + 1)) bM bP bO))) else (if bI < 10 then ((postroomlaw11_pick.f ((rd_T75 x0 x4).f2) 20).bind fun b4 => ((some (([97, 114] : List Int) : List Int)).bind fun bJ => ((postroomlaw11_pick.f ((rd_T75 x0 x4).f2) 2).bind fun bE => (if 0 ≤ bE then (if bE < (bJ.length : Int) then ((ledger_Done.f k bM bP bO (rdOf ByteArray.empty bz bG) (IntKind.u64.wrap (1 + (IntKind.u64.wrap (b4)))) (rd bJ bE)).bind fun bC => (if bC.2.2.2 = 0 then (postroomlaw11_run.l0 k x0 (wrap64 (x4 + 1)) bC.1 bC.2.1 bC.2.2.1) else (postroomlaw11_run.l0 k x0 (wrap64 (x4 + 1)) bM bP bO))) else (none)) else (none))))) else ((postroomlaw11_pick.f ((rd_T75 x0 x4).f2) 3).bind fun dj => ((ledger_Evict.f k bM bP bO (IntKind.u64.wrap (bM + (IntKind.u64.wrap (dj))))).bind fun bH => (if bH.2.2.2 = 0 then (postroomlaw11_run.l0 k x0 (wrap64 (x4 + 1)) bH.1 bH.2.1 bH.2.2.1) else (postroomlaw11_run.l0 k x0 (wrap64 (x4 + 1)) bM bP bO))))))))) else (none)) else (none))) else (none))) else (some (bM, bP, bO))
def postroomlaw11_run.f (k : Nat) (l0 : List (S75)) : Option (Int × Int × (List (S55))) := (ledger_New.f).bind fun dk => (postroomlaw11_run.l0 k l0 0 dk.1 dk.2.1 dk.2.2)
def postroomlaw11_run.T9 : Bool × List (List Nat × List Nat) := (true, [([], []), ([], []), ([1], [1]), ([], []), ([], []), ([3, 4], [3, 4]), ([5], [5]), ([6], [6]), ([7], [7]), ([8], [8]), ([2, 9], [2, 9]), ([0, 10, 8], [0, 10]), ([11], [11]), ([12], [12]), ([12], [12]), ([13, 11, 0, 1, 2, 3, 4, 5, 6, 7, 8, 9, 10, 11, 12, 13], [13]), ([14, 15, 0, 1, 2, 3, 4, 5, 6, 7, 8, 9, 10, 11, 12, 13, 14, 15], [14])])
def postroomlaw11_run.B9 : List Nat := [0, 0, 2, 0, 0, 24, 56, 120, 248, 504, 1022, 2047, 4095, 8191, 8191, 16383, 65535]
theorem postroomlaw11_run.tab9 : rtab .any (opsOf Tryd.f18 9) = postroomlaw11_run.T9 := by kernel_rfl
theorem postroomlaw11_run.bits9 : waitsOk postroomlaw11_run.T9.2 postroomlaw11_run.B9 = true := by kernel_rfl
def postroomlaw11_run.T17 : Bool × List (List Nat × List Nat) := (true, [([], []), ([], []), ([], []), ([], []), ([2, 3], [2, 3]), ([4], [4]), ([5], [5]), ([6], [6]), ([7], [7]), ([8], [8]), ([], []), ([], []), ([], []), ([11, 12], [11, 12]), ([13], [13]), ([14], [14]), ([15, 7], [15]), ([10, 16], [10, 16]), ([17], [17]), ([0, 1, 9, 18, 16], [0, 1, 9, 18]), ([19], [19]), ([20], [20]), ([20], [20]), ([21, 19, 0, 1, 2, 3, 4, 5, 6, 7, 8, 9, 10, 11, 12, 13, 14, 15, 16, 17, 18, 19, 20, 21], [21]), ([22, 23, 0, 1, 2, 3, 4, 5, 6, 7, 8, 9, 10, 11, 12, 13, 14, 15, 16, 17, 18, 19, 20, 21, 22, 23], [22])])
def postroomlaw11_run.B17 : List Nat := [0, 0, 0, 0, 12, 28, 60, 124, 252, 508, 0, 0, 0, 6144, 14336, 30720, 63740, 130300, 261372, 524287, 1048575, 2097151, 2097151, 4194303, 16777215]
theorem postroomlaw11_run.tab17 : rtab .any (opsOf Tryd.f18 17) = postroomlaw11_run.T17 := by kernel_rfl
theorem postroomlaw11_run.bits17 : waitsOk postroomlaw11_run.T17.2 postroomlaw11_run.B17 = true := by kernel_rfl
set_option maxHeartbeats 8000000 in
set_option maxRecDepth 100000 in
theorem postroomlaw11_run.calls (k : Nat) (A0 : Option Addr) (c0 : Nat) (l0 : List (S75)) (r1 : Int) (r2 : Int) (r3 : List (S55)) (w : World) (hr0 : Kd.C k75 w A0 l0.length l0) (hc0 : l0.length ≤ c0) (h : postroomlaw11_run.f k l0 = some (r1, r2, r3)) :
  Calls Tryd.prog 18 #[.slice A0 l0.length c0] w fun e w' => ∃ v2_ : Value, e = .returned (.agg #[.int .u64 r1, .int .u64 r2, v2_]) ∧ Kd.V k55 55 w' w.heap.size (fun k_ => (w.heap.size ≤ k_)) v2_ r3 ∧ Below w.heap.size w w' := by
 have o5 := Tryd.underlying25
 have HR0 := Aside0.mk hr0
 have HC0 := Aside0.mk hc0
 clear hr0 hc0
 have HB := Aside0.mk (Below.refl w.heap.size w)
 have H : ((ledger_New.f).bind fun dk => (postroomlaw11_run.l0 k l0 0 dk.1 dk.2.1 dk.2.2)) = some (r1, r2, r3) := h
 clear h
 replace H := Option.bind_eq_some_iff.mp H
 obtain ⟨⟨d1, d5, d4⟩, A20, H⟩ := H
 replace H : (postroomlaw11_run.l0 k l0 0 d1 d5 d4) = some (r1, r2, r3) := H
 have A2 := Aside0.mk A20
 clear A20
 have H' := Aside0.mk H
 clear H
 go_enter Tryd.func18, Tryd.ntmps18
 go_wp2_with (first | ((with_reducible refine gate_dst (N := 2) rfl ?_); refine box_event ?hg (N := 2) ?hd (cs := #[.int .u64 0, .int .u64 0, .slice none 0 0]) (t := 25) ?hr ?_; (case hd => rfl); (case hg => rfl); (case hr => first | (go_simp; done) | (go_simp; rfl)); intro bk hg w3 hbox hb; have bn := Aside0.mk (hbox); have oY := Aside0.mk ((by rw [hg]; exact (below_size zx22_22) : w.heap.size ≤ bk)); have b1 := Aside0.mk ((by rw [hg]; exact (below_size zx22_22) : w.heap.size ≤ bk)); replace HB := Aside0.mk (below_step zx22_22 hb); clear hb hbox hg) | ((with_reducible refine gate_callee (f := 35) rfl ?_); refine goesL_ (some 9) rfl rfl Tryd.func35 (by kernel_rfl) rfl #[] rfl zx22_4 ?_; (with_reducible refine (ledger_New.calls  d1 d5 d4 _ A2.out).mono ?_); rintro e w4 ⟨o4, rfl, ho0, hb⟩; refine ⟨_, rfl, ?_⟩; have dV := Aside0.mk (Kd.N_lower (Kd.N_mono (ok' := fun k_ => (w.heap.size ≤ k_) ∧ k_ ≠ bk) (Kd.S_N (Kd.S_bound ho0)) (fun k_ hk_ => ⟨(Nat.le_trans (below_size zx22_17) hk_.2.1), (Kd.freshB (g := bk) (o := .cells #[.int .u64 0, .int .u64 0, .slice none 0 0] 25 (0, 0)) zx22_1 k_ hk_.2.1)⟩)) (below_size zx22_17)); replace bn := Aside0.mk (blk_below (g := bk) (o := .cells #[.int .u64 0, .int .u64 0, .slice none 0 0] 25 (0, 0)) zx22_1 hb); replace HB := Aside0.mk (below_step zx22_17 hb); (try clear hb); (try clear hb2); (try clear hk); (try clear hi); (try clear ho0)) | ((with_reducible refine gate_dst (N := 3) rfl ?_); refine box_event ?hg (N := 3) ?hd (cs := #[.int .u64 0, .int .u64 0, .slice none 0 0]) (t := 25) ?hr ?_; (case hd => rfl); (case hg => rfl); (case hr => first | (go_simp; done) | (go_simp; rfl)); intro bh hg w5 hbox hb; replace dV := Aside0.mk (Kd.N_below (Kd.N_elderB (by (with_reducible repeat (first | apply Kd.N_alloc | apply Kd.N_drewN | apply Kd.N_drew)); exact dV.out) bh (Nat.le_of_eq hg.symm)) hb); have be := Aside0.mk (hbox); have oX := Aside0.mk ((by rw [hg]; exact (below_size zx22_17) : w.heap.size ≤ bh)); have b3 := Aside0.mk ((by rw [hg]; exact (below_size zx22_17) : w.heap.size ≤ bh)); replace HB := Aside0.mk (below_step zx22_17 hb); have bK := Aside0.mk ((by rw [hg]; exact Nat.ne_of_lt (blk_lt (g := bk) (o := .cells #[.int .u64 0, .int .u64 0, .slice none 0 0] 25 (0, 0)) zx22_1) : bk ≠ bh)); have di := Aside0.mk ((by rw [hg]; exact Nat.ne_of_gt (blk_lt (g := bk) (o := .cells #[.int .u64 0, .int .u64 0, .slice none 0 0] 25 (0, 0)) zx22_1) : bh ≠ bk)); replace bn := Aside0.mk (blk_below (g := bk) (o := .cells #[.int .u64 0, .int .u64 0, .slice none 0 0] 25 (0, 0)) zx22_1 hb); clear hb hbox hg; have o7 := di.out; have o6 := bK.out; have gN : w5.cell? ⟨bh, 0, none⟩ = some (.int .u64 0) := (blk_cell be.out 0).trans rfl; have gM : w5.cell? ⟨bh, 1, none⟩ = some (.int .u64 0) := (blk_cell be.out 1).trans rfl; have gL : w5.cell? ⟨bh, 2, none⟩ = some (.slice none 0 0) := (blk_cell be.out 2).trans rfl; have gK := blk_frozen be.out 0; have gJ := blk_frozen be.out 1; have gI := blk_frozen be.out 2; obtain ⟨Ao8, co8, eo8⟩ := Kd.N_slice dV.out; subst eo8))
 go_loopg [4] k (fun kq v4 w' => ∃ (bf : Int) (bb : Int) (bc : Int) (ba : List (S55)) (bV : Value), v4 = .int .i64 bf ∧ Aside0 (postroomlaw11_run.l0 kq l0 bf bb bc ba = some (r1, r2, r3)) ∧ Aside0 (kq ≤ k) ∧ Aside0 (Kd.V k55 55 w' w.heap.size (fun k_ => (w.heap.size ≤ k_) ∧ k_ ≠ bk ∧ k_ ≠ bh) bV ba) ∧ Aside0 (w'.heap[bk]? = some (.cells #[.int .u64 0, .int .u64 0, (.slice none 0 0)] 25 (0, 0))) ∧ Aside0 (w'.heap[bh]? = some (.cells #[.int .u64 bb, .int .u64 bc, bV] 25 (0, 0))) ∧ Aside0 (Below w.heap.size w w'))
 case atStart => exact ⟨(0), (d1), (d5), (d4), (.slice Ao8 d4.length co8), zx22_20, H', ⟨Nat.le_refl _⟩, ⟨Kd.N_V (by (with_reducible repeat (first | apply Kd.N_alloc | apply Kd.N_drewN | apply Kd.N_drew)); exact Kd.N_mono (Kd.N_far (p := ⟨bh, 2, none⟩) (Kd.N_far (p := ⟨bh, 1, none⟩) (Kd.N_far (p := ⟨bh, 0, none⟩) (Kd.N_mono dV.out (fun k_ hk => (⟨hk, hk.2⟩ : _ ∧ k_ ≠ bh))) (fun _ hk => hk.2) (.int .u64 d1)) (fun _ hk => hk.2) (.int .u64 d5)) (fun _ hk => hk.2) (.slice Ao8 d4.length co8)) (fun _ hk => ⟨hk.1.1.1, ⟨hk.1.1.2, hk.1.2⟩⟩))⟩, ⟨by (iterate 3 ((with_reducible repeat (first | refine blk_drewN ?_ _ | refine blk_drew ?_ | refine blk_alloc ?_ _)); refine blk_far ?_ bK.out _)); (with_reducible repeat (first | refine blk_drewN ?_ _ | refine blk_drew ?_ | refine blk_alloc ?_ _)); exact bn.out⟩, ⟨by (with_reducible repeat (first | refine blk_drewN ?_ _ | refine blk_drew ?_ | refine blk_alloc ?_ _)); refine blk_put (cs := #[.int .u64 d1, .int .u64 d5, .slice none 0 0]) ?_ 2 _ rfl; (with_reducible repeat (first | refine blk_drewN ?_ _ | refine blk_drew ?_ | refine blk_alloc ?_ _)); refine blk_put (cs := #[.int .u64 d1, .int .u64 0, .slice none 0 0]) ?_ 1 _ rfl; (with_reducible repeat (first | refine blk_drewN ?_ _ | refine blk_drew ?_ | refine blk_alloc ?_ _)); refine blk_put (cs := #[.int .u64 0, .int .u64 0, .slice none 0 0]) ?_ 0 _ rfl; (with_reducible repeat (first | refine blk_drewN ?_ _ | refine blk_drew ?_ | refine blk_alloc ?_ _)); exact be.out⟩, ⟨by repeat (first | (with_reducible first | exact HB.out | apply below_alloc | apply pw_below_drewN | apply below_drew1 | refine below_set ?_ b1.out | refine below_set ?_ b3.out) | exact HB.out)⟩⟩
 case round =>
  clear H'
  (try clear c1); (try clear p2); (try clear c3); (try clear c6); (try clear gN); (try clear gM); (try clear gL); (try clear gK); (try clear gJ); (try clear gI)
  obtain ⟨bf, bb, bc, ba, bV, rfl, HA, HK1, bg, bn, be, HB⟩ := hrel
  cases gk with
  | zero => exact absurd HA.out (by simp [postroomlaw11_run.l0])
  | succ k1 => ?_
  have H := HA.out
  clear HA
  simp only [postroomlaw11_run.l0] at H
  by_cases c9 : bf < (l0.length : Int)
  case neg =>
   rw [if_neg c9] at H
   have ox : decide (bf < (l0.length : Int)) = false := decide_eq_false c9
   clear c9
   simp only [Option.some.injEq, Prod.mk.injEq] at H
   obtain ⟨rfl, rfl, rfl⟩ := H
   have oa := di.out
   have m9 := bK.out
   obtain ⟨jm, jl, jk, hO, hN, hM⟩ := cx22_bc3 be.out
   obtain ⟨jj, ji, jh, hL, hJ, hI⟩ := cx22_bc3 bn.out
   obtain ⟨gm, gf, jF⟩ := Kd.V_slice bg.out
   subst jF
   go_wp2
   refine bodyPost_ret (results_cell_row rfl _ _ bk 25 #[.int .u64 bb, .int .u64 bc, .slice gm ba.length gf] (0, 0) _ rfl (by (with_reducible repeat (first | refine blk_drewN ?_ _ | refine blk_drew ?_ | refine blk_alloc ?_ _)); refine blk_put (cs := #[.int .u64 bb, .int .u64 bc, .slice none 0 0]) ?_ 2 _ rfl; (with_reducible repeat (first | refine blk_drewN ?_ _ | refine blk_drew ?_ | refine blk_alloc ?_ _)); refine blk_put (cs := #[.int .u64 bb, .int .u64 0, .slice none 0 0]) ?_ 1 _ rfl; (with_reducible repeat (first | refine blk_drewN ?_ _ | refine blk_drew ?_ | refine blk_alloc ?_ _)); refine blk_put (cs := #[.int .u64 0, .int .u64 0, .slice none 0 0]) ?_ 0 _ rfl; (with_reducible repeat (first | refine blk_drewN ?_ _ | refine blk_drew ?_ | refine blk_alloc ?_ _)); exact bn.out) Tryd.underlying25 rfl (by kernel_rfl)) rfl ?_
   exact ⟨_, by first | rfl | (simp [errW_none, errW_some] <;> rfl) | (simp [*, errW_none, errW_some] <;> rfl), by (with_reducible repeat (first | apply Kd.V_alloc | apply Kd.V_drewN | apply Kd.V_drew)); exact Kd.V_mono (Kd.V_far (p := ⟨bk, 2, none⟩) (Kd.V_far (p := ⟨bk, 1, none⟩) (Kd.V_far (p := ⟨bk, 0, none⟩) (Kd.V_mono bg.out (fun k_ hk => (⟨hk, hk.2.1⟩ : _ ∧ k_ ≠ bk))) (fun _ hk => hk.2) (.int .u64 bb)) (fun _ hk => hk.2) (.int .u64 bc)) (fun _ hk => hk.2) (.slice gm ba.length gf)) (fun _ hk => hk.1.1), by repeat (first | (with_reducible first | exact HB.out | apply below_alloc | apply pw_below_drewN | apply below_drew1 | refine below_set ?_ b1.out | refine below_set ?_ b3.out) | exact HB.out)⟩

  rw [if_pos c9] at H
  have ox : decide (bf < (l0.length : Int)) = true := decide_eq_true c9
  clear c9
  obtain ⟨bz, dE⟩ : ∃ y_ : List ByteArray, y_ = (([(⟨#[97]⟩ : ByteArray), (⟨#[98]⟩ : ByteArray), (⟨#[99]⟩ : ByteArray), (⟨#[122, 111, 110, 101]⟩ : ByteArray)] : List ByteArray)) := ⟨_, rfl⟩
  replace H : (if 0 ≤ bf then ((postroomlaw11_pick.f ((rd_T75 l0 bf).f1) 4).bind fun bG => (if 0 ≤ bG then (if bG < (bz.length : Int) then ((postroomlaw11_pick.f ((rd_T75 l0 bf).f0) 11).bind fun bI => (if bI < 4 then ((ledger_Add.f bb bc ba).bind fun bZ => (if 0 = 0 then (postroomlaw11_run.l0 k1 l0 (wrap64 (bf + 1)) bZ.1 bZ.2.1 bZ.2.2) else (postroomlaw11_run.l0 k1 l0 (wrap64 (bf + 1)) bb bc ba))) else (if bI = 4 then ((ledger_Join.f bb bc ba (rdOf ByteArray.empty bz bG)).bind fun bR => (if bR.2.2.2 = 0 then (postroomlaw11_run.l0 k1 l0 (wrap64 (bf + 1)) bR.1 bR.2.1 bR.2.2.1) else (postroomlaw11_run.l0 k1 l0 (wrap64 (bf + 1)) bb bc ba))) else (if bI = 5 then ((ledger_Leave.f bb bc ba (rdOf ByteArray.empty bz bG)).bind fun bQ => (if bQ.2.2.2 = 0 then (postroomlaw11_run.l0 k1 l0 (wrap64 (bf + 1)) bQ.1 bQ.2.1 bQ.2.2.1) else (postroomlaw11_run.l0 k1 l0 (wrap64 (bf + 1)) bb bc ba))) else (if bI < 10 then ((postroomlaw11_pick.f ((rd_T75 l0 bf).f2) 20).bind fun b4 => ((some (([97, 114] : List Int) : List Int)).bind fun bJ => ((postroomlaw11_pick.f ((rd_T75 l0 bf).f2) 2).bind fun bE => (if 0 ≤ bE then (if bE < (bJ.length : Int) then ((ledger_Done.f k1 bb bc ba (rdOf ByteArray.empty bz bG) (IntKind.u64.wrap (1 + (IntKind.u64.wrap (b4)))) (rd bJ bE)).bind fun bC => (if bC.2.2.2 = 0 then (postroomlaw11_run.l0 k1 l0 (wrap64 (bf + 1)) bC.1 bC.2.1 bC.2.2.1) else (postroomlaw11_run.l0 k1 l0 (wrap64 (bf + 1)) bb bc ba))) else (none)) else (none))))) else ((postroomlaw11_pick.f ((rd_T75 l0 bf).f2) 3).bind fun dj => ((ledger_Evict.f k1 bb bc ba (IntKind.u64.wrap (bb + (IntKind.u64.wrap (dj))))).bind fun bH => (if bH.2.2.2 = 0 then (postroomlaw11_run.l0 k1 l0 (wrap64 (bf + 1)) bH.1 bH.2.1 bH.2.2.1) else (postroomlaw11_run.l0 k1 l0 (wrap64 (bf + 1)) bb bc ba))))))))) else (none)) else (none))) else (none)) = some (r1, r2, r3) := by first | (rw [dE]; with_reducible exact H) | (have H2_ := (Option.bind_some _ _).symm.trans H; rw [dE]; with_reducible exact H2_) | (have H2_ := (Option.bind_some _ _).symm.trans H; with_reducible exact H2_) | with_reducible exact H | (rw [dE]; exact H) | exact H
  have gh := Aside0.mk dE
  clear dE
  by_cases c10 : 0 ≤ bf
  case neg =>
   rw [if_neg c10] at H
   exact absurd H (by simp)
  rw [if_pos c10] at H
  have oW : decide (0 ≤ bf) = true := decide_eq_true c10
  clear c10
  replace H := Option.bind_eq_some_iff.mp H
  obtain ⟨bG, j7, H⟩ := H
  replace H : (if 0 ≤ bG then (if bG < (bz.length : Int) then ((postroomlaw11_pick.f ((rd_T75 l0 bf).f0) 11).bind fun bI => (if bI < 4 then ((ledger_Add.f bb bc ba).bind fun bZ => (if 0 = 0 then (postroomlaw11_run.l0 k1 l0 (wrap64 (bf + 1)) bZ.1 bZ.2.1 bZ.2.2) else (postroomlaw11_run.l0 k1 l0 (wrap64 (bf + 1)) bb bc ba))) else (if bI = 4 then ((ledger_Join.f bb bc ba (rdOf ByteArray.empty bz bG)).bind fun bR => (if bR.2.2.2 = 0 then (postroomlaw11_run.l0 k1 l0 (wrap64 (bf + 1)) bR.1 bR.2.1 bR.2.2.1) else (postroomlaw11_run.l0 k1 l0 (wrap64 (bf + 1)) bb bc ba))) else (if bI = 5 then ((ledger_Leave.f bb bc ba (rdOf ByteArray.empty bz bG)).bind fun bQ => (if bQ.2.2.2 = 0 then (postroomlaw11_run.l0 k1 l0 (wrap64 (bf + 1)) bQ.1 bQ.2.1 bQ.2.2.1) else (postroomlaw11_run.l0 k1 l0 (wrap64 (bf + 1)) bb bc ba))) else (if bI < 10 then ((postroomlaw11_pick.f ((rd_T75 l0 bf).f2) 20).bind fun b4 => ((some (([97, 114] : List Int) : List Int)).bind fun bJ => ((postroomlaw11_pick.f ((rd_T75 l0 bf).f2) 2).bind fun bE => (if 0 ≤ bE then (if bE < (bJ.length : Int) then ((ledger_Done.f k1 bb bc ba (rdOf ByteArray.empty bz bG) (IntKind.u64.wrap (1 + (IntKind.u64.wrap (b4)))) (rd bJ bE)).bind fun bC => (if bC.2.2.2 = 0 then (postroomlaw11_run.l0 k1 l0 (wrap64 (bf + 1)) bC.1 bC.2.1 bC.2.2.1) else (postroomlaw11_run.l0 k1 l0 (wrap64 (bf + 1)) bb bc ba))) else (none)) else (none))))) else ((postroomlaw11_pick.f ((rd_T75 l0 bf).f2) 3).bind fun dj => ((ledger_Evict.f k1 bb bc ba (IntKind.u64.wrap (bb + (IntKind.u64.wrap (dj))))).bind fun bH => (if bH.2.2.2 = 0 then (postroomlaw11_run.l0 k1 l0 (wrap64 (bf + 1)) bH.1 bH.2.1 bH.2.2.1) else (postroomlaw11_run.l0 k1 l0 (wrap64 (bf + 1)) bb bc ba))))))))) else (none)) else (none)) = some (r1, r2, r3) := H
  have A11 := Aside0.mk j7
  clear j7
  by_cases c12 : 0 ≤ bG
  case neg =>
   rw [if_neg c12] at H
   exact absurd H (by simp)
  rw [if_pos c12] at H
  have oV : decide (0 ≤ bG) = true := decide_eq_true c12
  clear c12
  by_cases c13 : bG < (bz.length : Int)
  case neg =>
   rw [if_neg c13] at H
   exact absurd H (by simp)
  rw [if_pos c13] at H
  have oU : decide (bG < (bz.length : Int)) = true := decide_eq_true c13
  clear c13
  replace H := Option.bind_eq_some_iff.mp H
  obtain ⟨bI, j5, H⟩ := H
  replace H : (if bI < 4 then ((ledger_Add.f bb bc ba).bind fun bZ => (if 0 = 0 then (postroomlaw11_run.l0 k1 l0 (wrap64 (bf + 1)) bZ.1 bZ.2.1 bZ.2.2) else (postroomlaw11_run.l0 k1 l0 (wrap64 (bf + 1)) bb bc ba))) else (if bI = 4 then ((ledger_Join.f bb bc ba (rdOf ByteArray.empty bz bG)).bind fun bR => (if bR.2.2.2 = 0 then (postroomlaw11_run.l0 k1 l0 (wrap64 (bf + 1)) bR.1 bR.2.1 bR.2.2.1) else (postroomlaw11_run.l0 k1 l0 (wrap64 (bf + 1)) bb bc ba))) else (if bI = 5 then ((ledger_Leave.f bb bc ba (rdOf ByteArray.empty bz bG)).bind fun bQ => (if bQ.2.2.2 = 0 then (postroomlaw11_run.l0 k1 l0 (wrap64 (bf + 1)) bQ.1 bQ.2.1 bQ.2.2.1) else (postroomlaw11_run.l0 k1 l0 (wrap64 (bf + 1)) bb bc ba))) else (if bI < 10 then ((postroomlaw11_pick.f ((rd_T75 l0 bf).f2) 20).bind fun b4 => ((some (([97, 114] : List Int) : List Int)).bind fun bJ => ((postroomlaw11_pick.f ((rd_T75 l0 bf).f2) 2).bind fun bE => (if 0 ≤ bE then (if bE < (bJ.length : Int) then ((ledger_Done.f k1 bb bc ba (rdOf ByteArray.empty bz bG) (IntKind.u64.wrap (1 + (IntKind.u64.wrap (b4)))) (rd bJ bE)).bind fun bC => (if bC.2.2.2 = 0 then (postroomlaw11_run.l0 k1 l0 (wrap64 (bf + 1)) bC.1 bC.2.1 bC.2.2.1) else (postroomlaw11_run.l0 k1 l0 (wrap64 (bf + 1)) bb bc ba))) else (none)) else (none))))) else ((postroomlaw11_pick.f ((rd_T75 l0 bf).f2) 3).bind fun dj => ((ledger_Evict.f k1 bb bc ba (IntKind.u64.wrap (bb + (IntKind.u64.wrap (dj))))).bind fun bH => (if bH.2.2.2 = 0 then (postroomlaw11_run.l0 k1 l0 (wrap64 (bf + 1)) bH.1 bH.2.1 bH.2.2.1) else (postroomlaw11_run.l0 k1 l0 (wrap64 (bf + 1)) bb bc ba)))))))) = some (r1, r2, r3) := H
  have A14 := Aside0.mk j5
  clear j5
  go_upto_region 10 with (first | ((with_reducible refine gate_dst (N := 16) rfl ?_); refine Kd.R_lit Kd.string _ 9 ?hg (N := 16) ?hd (xs := ([(⟨#[97]⟩ : ByteArray), (⟨#[98]⟩ : ByteArray), (⟨#[99]⟩ : ByteArray), (⟨#[122, 111, 110, 101]⟩ : ByteArray)] : List ByteArray)) (inner := [.string (⟨#[97]⟩ : ByteArray), .string (⟨#[98]⟩ : ByteArray), .string (⟨#[99]⟩ : ByteArray), .string (⟨#[122, 111, 110, 101]⟩ : ByteArray)]) (ok := fun _ => True) (okp := fun _ => True) ?hr ?hp (fun _ hk => hk) trivial (Below.refl _ _) (Nat.le_refl _) (by simp) ?_; (case hd => rfl); (case hg => rfl); (case hr => first | (go_simp; done) | (go_simp; rfl)); (case hp => exact (Reps.one (show Kd.M Kd.string _ _ _ (⟨#[97]⟩ : ByteArray) [.string (⟨#[97]⟩ : ByteArray)] from rfl) (Reps.one (show Kd.M Kd.string _ _ _ (⟨#[98]⟩ : ByteArray) [.string (⟨#[98]⟩ : ByteArray)] from rfl) (Reps.one (show Kd.M Kd.string _ _ _ (⟨#[99]⟩ : ByteArray) [.string (⟨#[99]⟩ : ByteArray)] from rfl) (Reps.one (show Kd.M Kd.string _ _ _ (⟨#[122, 111, 110, 101]⟩ : ByteArray) [.string (⟨#[122, 111, 110, 101]⟩ : ByteArray)] from rfl) (Reps.none _ _)))))); intro gZ w18 d2 hb hg_ hnew_; clear hg_ hnew_; (first | rw [← gh.out] at d2 | (simp only [Int.reduceToNat] at d2; rw [← gh.out] at d2)); replace bg := Aside0.mk (Kd.V_elder' zx22_15 (Kd.R_base d2) hb); have bD := Aside0.mk (Kd.R_lower (Kd.R_newM (M := fun k_ => (w.heap.size ≤ k_)) d2 (below_size zx22_16) (fun k_ h_ => h_)) (below_size zx22_16)); replace bn := Aside0.mk (blk_below (g := bk) (o := .cells #[.int .u64 0, .int .u64 0, .slice none 0 0] 25 (0, 0)) zx22_1 hb); replace be := Aside0.mk (blk_below (g := bh) (o := .cells #[.int .u64 bb, .int .u64 bc, bV] 25 (0, 0)) zx22_2 hb); replace HB := Aside0.mk (below_step zx22_16 hb); clear hb d2; have gH : 0 ≤ (bf : Int) := of_decide_eq_true zx22_18; have gB : bf < (l0.length : Int) := of_decide_eq_true zx22_18; obtain ⟨bA, ov, du, dt, dr⟩ := at_T75 HR0.out bf gH gB; cases ov; replace du := (HB.out.cell (World.block_lt_of_cell? w _ du)).trans du; replace dt := (HB.out.cell (World.block_lt_of_cell? w _ dt)).trans dt; replace dr := (HB.out.cell (World.block_lt_of_cell? w _ dr)).trans dr; replace gH := eq_true gH; replace gB := eq_true gB) | ((with_reducible refine gate_callee (f := 19) rfl ?_); refine goesL_ (some 22) rfl rfl Tryd.func19 (by kernel_rfl) rfl #[.int .i64 ((rd_T75 l0 bf).f1), .int .i64 4] rfl zx22_4 ?_; (with_reducible refine (postroomlaw11_pick.calls ((rd_T75 l0 bf).f1) 4 bG _ A11.out).mono ?_); rintro e w' ⟨rfl, ⟨nd, rfl⟩⟩; refine ⟨_, rfl, ?_⟩; (try (rw [drewN_self w18]; generalize hq_ : World.drewN w18 _ = w18; have n0_ : Aside0 (Kd.R Kd.string 9 w18 w.heap.size (fun k_ => (w.heap.size ≤ k_)) gZ bz) := ⟨by rw [← hq_]; exact (by (with_reducible repeat (first | apply Kd.R_alloc | apply Kd.R_drewN | apply Kd.R_drew)); exact Kd.R_mono bD.out (fun _ hk => hk.1))⟩; have n1_ : Aside0 (Kd.V k55 55 w18 w.heap.size (fun k_ => (w.heap.size ≤ k_) ∧ some k_ ≠ (gZ : Value).ownBlock ∧ k_ ≠ bk ∧ k_ ≠ bh) bV ba) := ⟨by rw [← hq_]; exact (by (with_reducible repeat (first | apply Kd.V_alloc | apply Kd.V_drewN | apply Kd.V_drew)); exact Kd.V_mono bg.out (fun _ hk => ⟨hk.1.1, ⟨hk.2, ⟨hk.1.2.1, hk.1.2.2⟩⟩⟩))⟩; have n2_ : Aside0 (w18.heap[bk]? = some (.cells #[.int .u64 0, .int .u64 0, .slice none 0 0] 25 (0, 0))) := ⟨by rw [← hq_]; exact zx22_1⟩; have n3_ : Aside0 (w18.heap[bh]? = some (.cells #[.int .u64 bb, .int .u64 bc, bV] 25 (0, 0))) := ⟨by rw [← hq_]; exact zx22_2⟩; have n4_ : Aside0 (Below w.heap.size w w18) := ⟨by rw [← hq_]; exact zx22_16⟩; (try clear bD); clear bg bn be HB hq_; have bD := n0_; have bg := n1_; have bn := n2_; have be := n3_; have HB := n4_; clear n0_ n1_ n2_ n3_ n4_)); obtain ⟨o8, b0, on⟩ := Kd.R_slice bD.out; subst on; have gG : 0 ≤ (bG : Int) := of_decide_eq_true zx22_18; have gA : bG < (bz.length : Int) := of_decide_eq_true zx22_18; obtain ⟨bL, ou, j8⟩ := Kd.at_string (Kd.R_reads' bD.out).2.2 bG gG gA; cases ou; replace gG := eq_true gG; replace gA := eq_true gA; have oR := di.out; have oO := bK.out; have m4 : w18.cell? ⟨bh, 0, none⟩ = some (.int .u64 bb) := (blk_cell be.out 0).trans rfl; have m3 : w18.cell? ⟨bh, 1, none⟩ = some (.int .u64 bc) := (blk_cell be.out 1).trans rfl; have m2 : w18.cell? ⟨bh, 2, none⟩ = some (bV) := (blk_cell be.out 2).trans rfl; have mD := blk_frozen be.out 0; have mC := blk_frozen be.out 1; have mB := blk_frozen be.out 2) | ((with_reducible refine gate_dst (N := 6) rfl ?_); refine box_event ?hg (N := 6) ?hd (cs := #[.int .u64 0, .int .u64 0, .slice none 0 0]) (t := 25) ?hr ?_; (case hd => rfl); (case hg => rfl); (case hr => first | (go_simp; done) | (go_simp; rfl)); intro bd hg w23 hbox hb; replace bg := Aside0.mk (Kd.V_below (Kd.V_elderB zx22_15 bd (Nat.le_of_eq hg.symm)) hb); replace bD := Aside0.mk (Kd.R_below zx22_5 hb); have bj := Aside0.mk (hbox); have bB := Aside0.mk ((by rw [hg]; exact (below_size zx22_16) : w.heap.size ≤ bd)); have b7 := Aside0.mk ((by rw [hg]; exact (below_size zx22_16) : w.heap.size ≤ bd)); replace HB := Aside0.mk (below_step zx22_16 hb); have bx := Aside0.mk ((by rw [hg]; exact Nat.ne_of_lt (blk_lt (g := bk) (o := .cells #[.int .u64 0, .int .u64 0, .slice none 0 0] 25 (0, 0)) zx22_1) : bk ≠ bd)); have bU := Aside0.mk ((by rw [hg]; exact Nat.ne_of_gt (blk_lt (g := bk) (o := .cells #[.int .u64 0, .int .u64 0, .slice none 0 0] 25 (0, 0)) zx22_1) : bd ≠ bk)); replace bn := Aside0.mk (blk_below (g := bk) (o := .cells #[.int .u64 0, .int .u64 0, .slice none 0 0] 25 (0, 0)) zx22_1 hb); have bi := Aside0.mk ((by rw [hg]; exact Nat.ne_of_lt (blk_lt (g := bh) (o := .cells #[.int .u64 bb, .int .u64 bc, bV] 25 (0, 0)) zx22_2) : bh ≠ bd)); have bS := Aside0.mk ((by rw [hg]; exact Nat.ne_of_gt (blk_lt (g := bh) (o := .cells #[.int .u64 bb, .int .u64 bc, bV] 25 (0, 0)) zx22_2) : bd ≠ bh)); replace be := Aside0.mk (blk_below (g := bh) (o := .cells #[.int .u64 bb, .int .u64 bc, bV] 25 (0, 0)) zx22_2 hb); clear hb hbox hg; have oQ := bU.out; have oN := bx.out; have oP := bS.out; have oM := bi.out; have m1 : w23.cell? ⟨bd, 0, none⟩ = some (.int .u64 0) := (blk_cell bj.out 0).trans rfl; have m0 : w23.cell? ⟨bd, 1, none⟩ = some (.int .u64 0) := (blk_cell bj.out 1).trans rfl; have mZ : w23.cell? ⟨bd, 2, none⟩ = some (.slice none 0 0) := (blk_cell bj.out 2).trans rfl; have mA := blk_frozen bj.out 0; have mz := blk_frozen bj.out 1; have my := blk_frozen bj.out 2; obtain ⟨bm, bl, om⟩ := Kd.V_slice bg.out; subst om) | ((with_reducible refine gate_store (t := 25) (p := 6) rfl ?_); refine store_event (t := 25) (p := 6) (v := ?vo_w28) (w1 := (((w23.setCell ⟨bd, 0, none⟩ (.int .u64 bb)).setCell ⟨bd, 1, none⟩ (.int .u64 bc)).setCell ⟨bd, 2, none⟩ (.slice bm ba.length bl))) ?hg ?ho ?hn ?hr ?_; (case ho => rfl); (case hg => rfl); (case hn => rfl); (case hr => first | (go_simp; done) | (go_simp; rfl)); intro w28 hw; have n0_ : Aside0 (Kd.V k55 55 w28 w.heap.size (fun k_ => (w.heap.size ≤ k_) ∧ some k_ ≠ (.slice (some bL) bz.length b0 : Value).ownBlock ∧ k_ ≠ bk ∧ k_ ≠ bh ∧ k_ ≠ bd) (.slice bm ba.length bl) ba) := ⟨(by rw [hw]; exact (by (with_reducible repeat (first | apply Kd.V_alloc | apply Kd.V_drewN | apply Kd.V_drew)); exact Kd.V_mono (Kd.V_far (p := ⟨bd, 2, none⟩) (Kd.V_far (p := ⟨bd, 1, none⟩) (Kd.V_far (p := ⟨bd, 0, none⟩) (Kd.V_mono bg.out (fun k_ hk => (⟨hk, hk.2⟩ : _ ∧ k_ ≠ bd))) (fun _ hk => hk.2) (.int .u64 bb)) (fun _ hk => hk.2) (.int .u64 bc)) (fun _ hk => hk.2) (.slice bm ba.length bl)) (fun _ hk => ⟨hk.1.1.1, ⟨hk.1.1.2.1, ⟨hk.1.1.2.2.1, ⟨hk.1.1.2.2.2, hk.1.2⟩⟩⟩⟩)))⟩; have n1_ : Aside0 (Kd.R Kd.string 9 w28 w.heap.size (fun k_ => (w.heap.size ≤ k_)) (.slice (some bL) bz.length b0) bz) := ⟨(by rw [hw]; exact (by (with_reducible repeat (first | apply Kd.R_alloc | apply Kd.R_drewN | apply Kd.R_drew)); exact Kd.R_mono (Kd.R_far (p := ⟨bd, 2, none⟩) (Kd.R_far (p := ⟨bd, 1, none⟩) (Kd.R_far (p := ⟨bd, 0, none⟩) (Kd.R_types bD.out bj.out (by decide)) (fun _ hk => hk.2) (.int .u64 bb)) (fun _ hk => hk.2) (.int .u64 bc)) (fun _ hk => hk.2) (.slice bm ba.length bl)) (fun _ hk => hk.1)))⟩; have n2_ : Aside0 (w28.heap[bk]? = some (.cells #[.int .u64 0, .int .u64 0, .slice none 0 0] 25 (0, 0))) := ⟨(by rw [hw]; exact (by (iterate 3 ((with_reducible repeat (first | refine blk_drewN ?_ _ | refine blk_drew ?_ | refine blk_alloc ?_ _)); refine blk_far ?_ bx.out _)); (with_reducible repeat (first | refine blk_drewN ?_ _ | refine blk_drew ?_ | refine blk_alloc ?_ _)); exact bn.out))⟩; have n3_ : Aside0 (w28.heap[bh]? = some (.cells #[.int .u64 bb, .int .u64 bc, .slice bm ba.length bl] 25 (0, 0))) := ⟨(by rw [hw]; exact (by (iterate 3 ((with_reducible repeat (first | refine blk_drewN ?_ _ | refine blk_drew ?_ | refine blk_alloc ?_ _)); refine blk_far ?_ bi.out _)); (with_reducible repeat (first | refine blk_drewN ?_ _ | refine blk_drew ?_ | refine blk_alloc ?_ _)); exact be.out))⟩; have n4_ : Aside0 (w28.heap[bd]? = some (.cells #[.int .u64 bb, .int .u64 bc, .slice bm ba.length bl] 25 (0, 0))) := ⟨(by rw [hw]; exact (by (with_reducible repeat (first | refine blk_drewN ?_ _ | refine blk_drew ?_ | refine blk_alloc ?_ _)); refine blk_put (cs := #[.int .u64 bb, .int .u64 bc, .slice none 0 0]) ?_ 2 _ rfl; (with_reducible repeat (first | refine blk_drewN ?_ _ | refine blk_drew ?_ | refine blk_alloc ?_ _)); refine blk_put (cs := #[.int .u64 bb, .int .u64 0, .slice none 0 0]) ?_ 1 _ rfl; (with_reducible repeat (first | refine blk_drewN ?_ _ | refine blk_drew ?_ | refine blk_alloc ?_ _)); refine blk_put (cs := #[.int .u64 0, .int .u64 0, .slice none 0 0]) ?_ 0 _ rfl; (with_reducible repeat (first | refine blk_drewN ?_ _ | refine blk_drew ?_ | refine blk_alloc ?_ _)); exact bj.out))⟩; have n5_ : Aside0 (Below w.heap.size w w28) := ⟨(by rw [hw]; exact zx22_0)⟩; clear hw; clear bg; (try clear bD); clear bn; clear be; clear bj; clear HB; have bg := n0_; have bD := n1_; have bn := n2_; have be := n3_; have bj := n4_; have HB := n5_; clear n0_ n1_ n2_ n3_ n4_ n5_; have gF : 0 ≤ (bf : Int) := of_decide_eq_true zx22_18; have gz : bf < (l0.length : Int) := of_decide_eq_true zx22_18; obtain ⟨jX, ot, dq, dp, dn⟩ := at_T75 HR0.out bf gF gz; obtain rfl : bA = jX := (by injection ot); replace dq := (HB.out.cell (World.block_lt_of_cell? w _ dq)).trans dq; replace dp := (HB.out.cell (World.block_lt_of_cell? w _ dp)).trans dp; replace dn := (HB.out.cell (World.block_lt_of_cell? w _ dn)).trans dn; replace gF := eq_true gF; replace gz := eq_true gz) | ((with_reducible refine gate_callee (f := 19) rfl ?_); refine goesL_ (some 31) rfl rfl Tryd.func19 (by kernel_rfl) rfl #[.int .i64 ((rd_T75 l0 bf).f0), .int .i64 11] rfl zx22_4 ?_; (with_reducible refine (postroomlaw11_pick.calls ((rd_T75 l0 bf).f0) 11 bI _ A14.out).mono ?_); rintro e w' ⟨rfl, ⟨nd, rfl⟩⟩; refine ⟨_, rfl, ?_⟩; (try (rw [drewN_self w28]; generalize hq_ : World.drewN w28 _ = w28; have n0_ : Aside0 (Kd.R Kd.string 9 w28 w.heap.size (fun k_ => (w.heap.size ≤ k_)) (.slice (some bL) bz.length b0) bz) := ⟨by rw [← hq_]; exact zx22_5⟩; have n1_ : Aside0 (Kd.V k55 55 w28 w.heap.size (fun k_ => (w.heap.size ≤ k_) ∧ some k_ ≠ (.slice (some bL) bz.length b0 : Value).ownBlock ∧ k_ ≠ bk ∧ k_ ≠ bh ∧ k_ ≠ bd) (.slice bm ba.length bl) ba) := ⟨by rw [← hq_]; exact zx22_15⟩; have n2_ : Aside0 (w28.heap[bk]? = some (.cells #[.int .u64 0, .int .u64 0, .slice none 0 0] 25 (0, 0))) := ⟨by rw [← hq_]; exact zx22_1⟩; have n3_ : Aside0 (w28.heap[bh]? = some (.cells #[.int .u64 bb, .int .u64 bc, .slice bm ba.length bl] 25 (0, 0))) := ⟨by rw [← hq_]; exact zx22_2⟩; have n4_ : Aside0 (w28.heap[bd]? = some (.cells #[.int .u64 bb, .int .u64 bc, .slice bm ba.length bl] 25 (0, 0))) := ⟨by rw [← hq_]; exact zx22_3⟩; have n5_ : Aside0 (Below w.heap.size w w28) := ⟨by rw [← hq_]; exact zx22_0⟩; (try clear bD); clear bg bn be bj HB hq_; have bD := n0_; have bg := n1_; have bn := n2_; have be := n3_; have bj := n4_; have HB := n5_; clear n0_ n1_ n2_ n3_ n4_ n5_)); have mY : w28.cell? ⟨bh, 0, none⟩ = some (.int .u64 bb) := (blk_cell be.out 0).trans rfl; have mX : w28.cell? ⟨bh, 1, none⟩ = some (.int .u64 bc) := (blk_cell be.out 1).trans rfl; have mW : w28.cell? ⟨bh, 2, none⟩ = some (.slice bm ba.length bl) := (blk_cell be.out 2).trans rfl; have mw := blk_frozen be.out 0; have mv := blk_frozen be.out 1; have mu := blk_frozen be.out 2))
  by_cases c15 : bI < 4
  ·rw [if_pos c15] at H
   have jS : decide (bI < 4) = true := decide_eq_true c15
   clear c15
   replace H := Option.bind_eq_some_iff.mp H
   obtain ⟨⟨dO, d0, dZ⟩, j4, H⟩ := H
   replace H : (if 0 = 0 then (postroomlaw11_run.l0 k1 l0 (wrap64 (bf + 1)) dO d0 dZ) else (postroomlaw11_run.l0 k1 l0 (wrap64 (bf + 1)) bb bc ba)) = some (r1, r2, r3) := H
   have A16 := Aside0.mk j4
   clear j4
   by_cases c17 : 0 = 0
   case neg =>
    exact absurd rfl c17
   rw [if_pos c17] at H
   have oT : (0 == 0) = true := beq_iff_eq.mpr c17
   have oS : (0 != 0) = false := bne_eq_false_iff_eq.mpr c17
   clear c17
   have H' := Aside0.mk H
   clear H
   go_wp2_with (first | ((with_reducible refine gate_callee (f := 21) rfl ?_); refine goesL_ (some 51) rfl rfl Tryd.func21 (by kernel_rfl) rfl #[.agg #[.int .u64 bb, .int .u64 bc, .slice bm ba.length bl]] rfl zx22_4 ?_; (with_reducible refine (ledger_Add.calls bb bc (fun k_ => ((w.heap.size ≤ k_) ∧ (some k_ ≠ (.slice (some bL) bz.length b0 : Value).ownBlock ∧ (k_ ≠ bk ∧ (k_ ≠ bh ∧ k_ ≠ bd))))) _ _ ba dO d0 dZ _ ?side1 A16.out).mono ?_); (case side1 => exact bg.out); rintro e w30 ⟨o3, rfl, ho0, hb⟩; refine ⟨_, rfl, ?_⟩; replace bg := Aside0.mk (Kd.V_elder' zx22_15 (Kd.N_base ho0) hb); have gl := Aside0.mk (Kd.N_lower (Kd.N_mono (ok' := fun k_ => (w.heap.size ≤ k_) ∧ some k_ ≠ (.slice (some bL) bz.length b0 : Value).ownBlock ∧ k_ ≠ bk ∧ k_ ≠ bh ∧ k_ ≠ bd) ho0 (fun k_ hk_ => ⟨Or.elim hk_ (fun hs_ => hs_.1) (fun hn_ => (Nat.le_trans (below_size zx22_0) hn_)), Or.elim hk_ (fun hs_ => hs_.2.1) (fun hn_ => (Kd.fresh' (Kd.R_lt zx22_5) k_ hn_)), Or.elim hk_ (fun hs_ => hs_.2.2.1) (fun hn_ => (Kd.freshB (g := bk) (o := .cells #[.int .u64 0, .int .u64 0, .slice none 0 0] 25 (0, 0)) zx22_1 k_ hn_)), Or.elim hk_ (fun hs_ => hs_.2.2.2.1) (fun hn_ => (Kd.freshB (g := bh) (o := .cells #[.int .u64 bb, .int .u64 bc, .slice bm ba.length bl] 25 (0, 0)) zx22_2 k_ hn_)), Or.elim hk_ (fun hs_ => hs_.2.2.2.2) (fun hn_ => (Kd.freshB (g := bd) (o := .cells #[.int .u64 bb, .int .u64 bc, .slice bm ba.length bl] 25 (0, 0)) zx22_3 k_ hn_))⟩)) (below_size zx22_0)); replace bD := Aside0.mk (Kd.R_below zx22_5 hb); replace bn := Aside0.mk (blk_below (g := bk) (o := .cells #[.int .u64 0, .int .u64 0, .slice none 0 0] 25 (0, 0)) zx22_1 hb); replace be := Aside0.mk (blk_below (g := bh) (o := .cells #[.int .u64 bb, .int .u64 bc, .slice bm ba.length bl] 25 (0, 0)) zx22_2 hb); replace bj := Aside0.mk (blk_below (g := bd) (o := .cells #[.int .u64 bb, .int .u64 bc, .slice bm ba.length bl] 25 (0, 0)) zx22_3 hb); replace HB := Aside0.mk (below_step zx22_0 hb); (try clear hb); (try clear hb2); (try clear hk); (try clear hi); (try clear ho0); have mV : w30.cell? ⟨bd, 0, none⟩ = some (.int .u64 bb) := (blk_cell bj.out 0).trans rfl; have mU : w30.cell? ⟨bd, 1, none⟩ = some (.int .u64 bc) := (blk_cell bj.out 1).trans rfl; have mT : w30.cell? ⟨bd, 2, none⟩ = some (.slice bm ba.length bl) := (blk_cell bj.out 2).trans rfl; have mt := blk_frozen bj.out 0; have ms := blk_frozen bj.out 1; have mr := blk_frozen bj.out 2; obtain ⟨gW, gP, ol⟩ := Kd.N_slice gl.out; subst ol; have mS : w30.cell? ⟨bh, 0, none⟩ = some (.int .u64 bb) := (blk_cell be.out 0).trans rfl; have mR : w30.cell? ⟨bh, 1, none⟩ = some (.int .u64 bc) := (blk_cell be.out 1).trans rfl; have mQ : w30.cell? ⟨bh, 2, none⟩ = some (.slice bm ba.length bl) := (blk_cell be.out 2).trans rfl; have mq := blk_frozen be.out 0; have mo := blk_frozen be.out 1; have mm := blk_frozen be.out 2))
   go_roundg k1
   case measure => have := HK1.out; omega
   case rel => exact ⟨(wrap64 (bf + 1)), (dO), (d0), (dZ), (.slice gW dZ.length gP), zx22_20, H', ⟨by have := HK1.out; omega⟩, ⟨Kd.N_V (by (with_reducible repeat (first | apply Kd.N_alloc | apply Kd.N_drewN | apply Kd.N_drew)); exact Kd.N_mono (Kd.N_far (p := ⟨bh, 2, none⟩) (Kd.N_far (p := ⟨bh, 1, none⟩) (Kd.N_far (p := ⟨bh, 0, none⟩) (Kd.N_far (p := ⟨bd, 2, none⟩) (Kd.N_far (p := ⟨bd, 1, none⟩) (Kd.N_far (p := ⟨bd, 0, none⟩) (Kd.N_mono (Kd.N_mono gl.out (fun k_ hk => (⟨hk, hk.2.2.2.2⟩ : _ ∧ k_ ≠ bd))) (fun k_ hk => (⟨hk, hk.1.2.2.2.1⟩ : _ ∧ k_ ≠ bh))) (fun _ hk => hk.1.2) (.int .u64 dO)) (fun _ hk => hk.1.2) (.int .u64 d0)) (fun _ hk => hk.1.2) (.slice gW dZ.length gP)) (fun _ hk => hk.2) (.int .u64 dO)) (fun _ hk => hk.2) (.int .u64 d0)) (fun _ hk => hk.2) (.slice gW dZ.length gP)) (fun _ hk => ⟨hk.1.1.1, ⟨hk.1.1.2.2.1, hk.1.1.2.2.2.1⟩⟩))⟩, ⟨by (iterate 3 ((with_reducible repeat (first | refine blk_drewN ?_ _ | refine blk_drew ?_ | refine blk_alloc ?_ _)); refine blk_far ?_ bK.out _)); (iterate 3 ((with_reducible repeat (first | refine blk_drewN ?_ _ | refine blk_drew ?_ | refine blk_alloc ?_ _)); refine blk_far ?_ bx.out _)); (with_reducible repeat (first | refine blk_drewN ?_ _ | refine blk_drew ?_ | refine blk_alloc ?_ _)); exact bn.out⟩, ⟨by (with_reducible repeat (first | refine blk_drewN ?_ _ | refine blk_drew ?_ | refine blk_alloc ?_ _)); refine blk_put (cs := #[.int .u64 dO, .int .u64 d0, .slice bm ba.length bl]) ?_ 2 _ rfl; (with_reducible repeat (first | refine blk_drewN ?_ _ | refine blk_drew ?_ | refine blk_alloc ?_ _)); refine blk_put (cs := #[.int .u64 dO, .int .u64 bc, .slice bm ba.length bl]) ?_ 1 _ rfl; (with_reducible repeat (first | refine blk_drewN ?_ _ | refine blk_drew ?_ | refine blk_alloc ?_ _)); refine blk_put (cs := #[.int .u64 bb, .int .u64 bc, .slice bm ba.length bl]) ?_ 0 _ rfl; (iterate 3 ((with_reducible repeat (first | refine blk_drewN ?_ _ | refine blk_drew ?_ | refine blk_alloc ?_ _)); refine blk_far ?_ bi.out _)); (with_reducible repeat (first | refine blk_drewN ?_ _ | refine blk_drew ?_ | refine blk_alloc ?_ _)); exact be.out⟩, ⟨by repeat (first | (with_reducible first | exact HB.out | apply below_alloc | apply pw_below_drewN | apply below_drew1 | refine below_set ?_ b1.out | refine below_set ?_ b3.out | refine below_set ?_ b7.out) | exact HB.out)⟩⟩
  rw [if_neg c15] at H
  have jS : decide (bI < 4) = false := decide_eq_false c15
  clear c15
  by_cases c49 : bI = 4
  ·rw [if_pos c49] at H
   have jR : (bI == 4) = true := beq_iff_eq.mpr c49
   have jQ : (bI != 4) = false := bne_eq_false_iff_eq.mpr c49
   clear c49
   replace H := Option.bind_eq_some_iff.mp H
   obtain ⟨⟨dm, dC, dB, dA⟩, j3, H⟩ := H
   replace H : (if dA = 0 then (postroomlaw11_run.l0 k1 l0 (wrap64 (bf + 1)) dm dC dB) else (postroomlaw11_run.l0 k1 l0 (wrap64 (bf + 1)) bb bc ba)) = some (r1, r2, r3) := H
   have A50 := Aside0.mk j3
   clear j3
   by_cases c51 : dA = 0
   case neg =>
    rw [if_neg c51] at H
    have jP : (dA == 0) = false := beq_eq_false_iff_ne.mpr c51
    have jO : (dA != 0) = true := bne_iff_ne.mpr c51
    have H' := Aside0.mk H
    clear H
    go_wp2_with (first | ((with_reducible refine gate_callee (f := 36) rfl ?_); refine goesL_ (some 58) rfl rfl Tryd.func36 (by kernel_rfl) rfl #[.agg #[.int .u64 bb, .int .u64 bc, .slice bm ba.length bl], .string (rdOf ByteArray.empty bz bG)] rfl zx22_4 ?_; (with_reducible refine (ledger_Join.calls bb bc (fun k_ => ((w.heap.size ≤ k_) ∧ (some k_ ≠ (.slice (some bL) bz.length b0 : Value).ownBlock ∧ (k_ ≠ bk ∧ (k_ ≠ bh ∧ k_ ≠ bd))))) _ _ ba (rdOf ByteArray.empty bz bG) dm dC dB dA _ ?side1 A50.out).mono ?_); (case side1 => exact bg.out); rintro e w80 ⟨m6, rfl, ho0, hb⟩; refine ⟨_, rfl, ?_⟩; replace bg := Aside0.mk (Kd.V_elder' zx22_15 (Kd.N_base ho0) hb); have dU := Aside0.mk (Kd.N_lower (Kd.N_mono (ok' := fun k_ => (w.heap.size ≤ k_) ∧ some k_ ≠ (.slice (some bL) bz.length b0 : Value).ownBlock ∧ k_ ≠ bk ∧ k_ ≠ bh ∧ k_ ≠ bd) ho0 (fun k_ hk_ => ⟨Or.elim hk_ (fun hs_ => hs_.1) (fun hn_ => (Nat.le_trans (below_size zx22_0) hn_)), Or.elim hk_ (fun hs_ => hs_.2.1) (fun hn_ => (Kd.fresh' (Kd.R_lt zx22_5) k_ hn_)), Or.elim hk_ (fun hs_ => hs_.2.2.1) (fun hn_ => (Kd.freshB (g := bk) (o := .cells #[.int .u64 0, .int .u64 0, .slice none 0 0] 25 (0, 0)) zx22_1 k_ hn_)), Or.elim hk_ (fun hs_ => hs_.2.2.2.1) (fun hn_ => (Kd.freshB (g := bh) (o := .cells #[.int .u64 bb, .int .u64 bc, .slice bm ba.length bl] 25 (0, 0)) zx22_2 k_ hn_)), Or.elim hk_ (fun hs_ => hs_.2.2.2.2) (fun hn_ => (Kd.freshB (g := bd) (o := .cells #[.int .u64 bb, .int .u64 bc, .slice bm ba.length bl] 25 (0, 0)) zx22_3 k_ hn_))⟩)) (below_size zx22_0)); replace bD := Aside0.mk (Kd.R_below zx22_5 hb); replace bn := Aside0.mk (blk_below (g := bk) (o := .cells #[.int .u64 0, .int .u64 0, .slice none 0 0] 25 (0, 0)) zx22_1 hb); replace be := Aside0.mk (blk_below (g := bh) (o := .cells #[.int .u64 bb, .int .u64 bc, .slice bm ba.length bl] 25 (0, 0)) zx22_2 hb); replace bj := Aside0.mk (blk_below (g := bd) (o := .cells #[.int .u64 bb, .int .u64 bc, .slice bm ba.length bl] 25 (0, 0)) zx22_3 hb); replace HB := Aside0.mk (below_step zx22_0 hb); (try clear hb); (try clear hb2); (try clear hk); (try clear hi); (try clear ho0); have mJ : w80.cell? ⟨bd, 0, none⟩ = some (.int .u64 bb) := (blk_cell bj.out 0).trans rfl; have mI : w80.cell? ⟨bd, 1, none⟩ = some (.int .u64 bc) := (blk_cell bj.out 1).trans rfl; have mH : w80.cell? ⟨bd, 2, none⟩ = some (.slice bm ba.length bl) := (blk_cell bj.out 2).trans rfl; have me := blk_frozen bj.out 0; have md := blk_frozen bj.out 1; have mc := blk_frozen bj.out 2; obtain ⟨oA, ow, oi⟩ := Kd.N_slice dU.out; subst oi))
    go_roundg k1
    case measure => have := HK1.out; omega
    case rel => exact ⟨(wrap64 (bf + 1)), (bb), (bc), (ba), (.slice bm ba.length bl), zx22_20, H', ⟨by have := HK1.out; omega⟩, ⟨by (with_reducible repeat (first | apply Kd.V_alloc | apply Kd.V_drewN | apply Kd.V_drew)); exact Kd.V_mono (Kd.V_far (p := ⟨bd, 2, none⟩) (Kd.V_far (p := ⟨bd, 1, none⟩) (Kd.V_far (p := ⟨bd, 0, none⟩) (Kd.V_mono bg.out (fun k_ hk => (⟨hk, hk.1.2.2.2.2⟩ : _ ∧ k_ ≠ bd))) (fun _ hk => hk.2) (.int .u64 dm)) (fun _ hk => hk.2) (.int .u64 dC)) (fun _ hk => hk.2) (.slice oA dB.length ow)) (fun _ hk => ⟨hk.1.1.1, ⟨hk.1.1.2.2.1, hk.1.1.2.2.2.1⟩⟩)⟩, ⟨by (iterate 3 ((with_reducible repeat (first | refine blk_drewN ?_ _ | refine blk_drew ?_ | refine blk_alloc ?_ _)); refine blk_far ?_ bx.out _)); (with_reducible repeat (first | refine blk_drewN ?_ _ | refine blk_drew ?_ | refine blk_alloc ?_ _)); exact bn.out⟩, ⟨by (iterate 3 ((with_reducible repeat (first | refine blk_drewN ?_ _ | refine blk_drew ?_ | refine blk_alloc ?_ _)); refine blk_far ?_ bi.out _)); (with_reducible repeat (first | refine blk_drewN ?_ _ | refine blk_drew ?_ | refine blk_alloc ?_ _)); exact be.out⟩, ⟨by repeat (first | (with_reducible first | exact HB.out | apply below_alloc | apply pw_below_drewN | apply below_drew1 | refine below_set ?_ b1.out | refine below_set ?_ b3.out | refine below_set ?_ b7.out) | exact HB.out)⟩⟩
   rw [if_pos c51] at H
   have jP : (dA == 0) = true := beq_iff_eq.mpr c51
   have jO : (dA != 0) = false := bne_eq_false_iff_eq.mpr c51
   clear c51
   have H' := Aside0.mk H
   clear H
   go_wp2_with (first | ((with_reducible refine gate_callee (f := 36) rfl ?_); refine goesL_ (some 58) rfl rfl Tryd.func36 (by kernel_rfl) rfl #[.agg #[.int .u64 bb, .int .u64 bc, .slice bm ba.length bl], .string (rdOf ByteArray.empty bz bG)] rfl zx22_4 ?_; (with_reducible refine (ledger_Join.calls bb bc (fun k_ => ((w.heap.size ≤ k_) ∧ (some k_ ≠ (.slice (some bL) bz.length b0 : Value).ownBlock ∧ (k_ ≠ bk ∧ (k_ ≠ bh ∧ k_ ≠ bd))))) _ _ ba (rdOf ByteArray.empty bz bG) dm dC dB dA _ ?side1 A50.out).mono ?_); (case side1 => exact bg.out); rintro e w64 ⟨m6, rfl, ho0, hb⟩; refine ⟨_, rfl, ?_⟩; replace bg := Aside0.mk (Kd.V_elder' zx22_15 (Kd.N_base ho0) hb); have dU := Aside0.mk (Kd.N_lower (Kd.N_mono (ok' := fun k_ => (w.heap.size ≤ k_) ∧ some k_ ≠ (.slice (some bL) bz.length b0 : Value).ownBlock ∧ k_ ≠ bk ∧ k_ ≠ bh ∧ k_ ≠ bd) ho0 (fun k_ hk_ => ⟨Or.elim hk_ (fun hs_ => hs_.1) (fun hn_ => (Nat.le_trans (below_size zx22_0) hn_)), Or.elim hk_ (fun hs_ => hs_.2.1) (fun hn_ => (Kd.fresh' (Kd.R_lt zx22_5) k_ hn_)), Or.elim hk_ (fun hs_ => hs_.2.2.1) (fun hn_ => (Kd.freshB (g := bk) (o := .cells #[.int .u64 0, .int .u64 0, .slice none 0 0] 25 (0, 0)) zx22_1 k_ hn_)), Or.elim hk_ (fun hs_ => hs_.2.2.2.1) (fun hn_ => (Kd.freshB (g := bh) (o := .cells #[.int .u64 bb, .int .u64 bc, .slice bm ba.length bl] 25 (0, 0)) zx22_2 k_ hn_)), Or.elim hk_ (fun hs_ => hs_.2.2.2.2) (fun hn_ => (Kd.freshB (g := bd) (o := .cells #[.int .u64 bb, .int .u64 bc, .slice bm ba.length bl] 25 (0, 0)) zx22_3 k_ hn_))⟩)) (below_size zx22_0)); replace bD := Aside0.mk (Kd.R_below zx22_5 hb); replace bn := Aside0.mk (blk_below (g := bk) (o := .cells #[.int .u64 0, .int .u64 0, .slice none 0 0] 25 (0, 0)) zx22_1 hb); replace be := Aside0.mk (blk_below (g := bh) (o := .cells #[.int .u64 bb, .int .u64 bc, .slice bm ba.length bl] 25 (0, 0)) zx22_2 hb); replace bj := Aside0.mk (blk_below (g := bd) (o := .cells #[.int .u64 bb, .int .u64 bc, .slice bm ba.length bl] 25 (0, 0)) zx22_3 hb); replace HB := Aside0.mk (below_step zx22_0 hb); (try clear hb); (try clear hb2); (try clear hk); (try clear hi); (try clear ho0); have mP : w64.cell? ⟨bd, 0, none⟩ = some (.int .u64 bb) := (blk_cell bj.out 0).trans rfl; have mO : w64.cell? ⟨bd, 1, none⟩ = some (.int .u64 bc) := (blk_cell bj.out 1).trans rfl; have mN : w64.cell? ⟨bd, 2, none⟩ = some (.slice bm ba.length bl) := (blk_cell bj.out 2).trans rfl; have ml := blk_frozen bj.out 0; have mj := blk_frozen bj.out 1; have mi := blk_frozen bj.out 2; obtain ⟨gV, gO, oj⟩ := Kd.N_slice dU.out; subst oj; have mM : w64.cell? ⟨bh, 0, none⟩ = some (.int .u64 bb) := (blk_cell be.out 0).trans rfl; have mL : w64.cell? ⟨bh, 1, none⟩ = some (.int .u64 bc) := (blk_cell be.out 1).trans rfl; have mK : w64.cell? ⟨bh, 2, none⟩ = some (.slice bm ba.length bl) := (blk_cell be.out 2).trans rfl; have mh := blk_frozen be.out 0; have mg := blk_frozen be.out 1; have mf := blk_frozen be.out 2))
   go_roundg k1
   case measure => have := HK1.out; omega
   case rel => exact ⟨(wrap64 (bf + 1)), (dm), (dC), (dB), (.slice gV dB.length gO), zx22_20, H', ⟨by have := HK1.out; omega⟩, ⟨Kd.N_V (by (with_reducible repeat (first | apply Kd.N_alloc | apply Kd.N_drewN | apply Kd.N_drew)); exact Kd.N_mono (Kd.N_far (p := ⟨bh, 2, none⟩) (Kd.N_far (p := ⟨bh, 1, none⟩) (Kd.N_far (p := ⟨bh, 0, none⟩) (Kd.N_far (p := ⟨bd, 2, none⟩) (Kd.N_far (p := ⟨bd, 1, none⟩) (Kd.N_far (p := ⟨bd, 0, none⟩) (Kd.N_mono (Kd.N_mono dU.out (fun k_ hk => (⟨hk, hk.2.2.2.2⟩ : _ ∧ k_ ≠ bd))) (fun k_ hk => (⟨hk, hk.1.2.2.2.1⟩ : _ ∧ k_ ≠ bh))) (fun _ hk => hk.1.2) (.int .u64 dm)) (fun _ hk => hk.1.2) (.int .u64 dC)) (fun _ hk => hk.1.2) (.slice gV dB.length gO)) (fun _ hk => hk.2) (.int .u64 dm)) (fun _ hk => hk.2) (.int .u64 dC)) (fun _ hk => hk.2) (.slice gV dB.length gO)) (fun _ hk => ⟨hk.1.1.1, ⟨hk.1.1.2.2.1, hk.1.1.2.2.2.1⟩⟩))⟩, ⟨by (iterate 3 ((with_reducible repeat (first | refine blk_drewN ?_ _ | refine blk_drew ?_ | refine blk_alloc ?_ _)); refine blk_far ?_ bK.out _)); (iterate 3 ((with_reducible repeat (first | refine blk_drewN ?_ _ | refine blk_drew ?_ | refine blk_alloc ?_ _)); refine blk_far ?_ bx.out _)); (with_reducible repeat (first | refine blk_drewN ?_ _ | refine blk_drew ?_ | refine blk_alloc ?_ _)); exact bn.out⟩, ⟨by (with_reducible repeat (first | refine blk_drewN ?_ _ | refine blk_drew ?_ | refine blk_alloc ?_ _)); refine blk_put (cs := #[.int .u64 dm, .int .u64 dC, .slice bm ba.length bl]) ?_ 2 _ rfl; (with_reducible repeat (first | refine blk_drewN ?_ _ | refine blk_drew ?_ | refine blk_alloc ?_ _)); refine blk_put (cs := #[.int .u64 dm, .int .u64 bc, .slice bm ba.length bl]) ?_ 1 _ rfl; (with_reducible repeat (first | refine blk_drewN ?_ _ | refine blk_drew ?_ | refine blk_alloc ?_ _)); refine blk_put (cs := #[.int .u64 bb, .int .u64 bc, .slice bm ba.length bl]) ?_ 0 _ rfl; (iterate 3 ((with_reducible repeat (first | refine blk_drewN ?_ _ | refine blk_drew ?_ | refine blk_alloc ?_ _)); refine blk_far ?_ bi.out _)); (with_reducible repeat (first | refine blk_drewN ?_ _ | refine blk_drew ?_ | refine blk_alloc ?_ _)); exact be.out⟩, ⟨by repeat (first | (with_reducible first | exact HB.out | apply below_alloc | apply pw_below_drewN | apply below_drew1 | refine below_set ?_ b1.out | refine below_set ?_ b3.out | refine below_set ?_ b7.out) | exact HB.out)⟩⟩
  rw [if_neg c49] at H
  have jR : (bI == 4) = false := beq_eq_false_iff_ne.mpr c49
  have jQ : (bI != 4) = true := bne_iff_ne.mpr c49
  by_cases c83 : bI = 5
  ·rw [if_pos c83] at H
   have jN : (bI == 5) = true := beq_iff_eq.mpr c83
   have jM : (bI != 5) = false := bne_eq_false_iff_eq.mpr c83
   clear c83
   replace H := Option.bind_eq_some_iff.mp H
   obtain ⟨⟨dl, dz, dy, dx⟩, jZ, H⟩ := H
   replace H : (if dx = 0 then (postroomlaw11_run.l0 k1 l0 (wrap64 (bf + 1)) dl dz dy) else (postroomlaw11_run.l0 k1 l0 (wrap64 (bf + 1)) bb bc ba)) = some (r1, r2, r3) := H
   have A84 := Aside0.mk jZ
   clear jZ
   by_cases c85 : dx = 0
   case neg =>
    rw [if_neg c85] at H
    have jL : (dx == 0) = false := beq_eq_false_iff_ne.mpr c85
    have jK : (dx != 0) = true := bne_iff_ne.mpr c85
    have H' := Aside0.mk H
    clear H
    go_wp2_with (first | ((with_reducible refine gate_callee (f := 37) rfl ?_); refine goesL_ (some 67) rfl rfl Tryd.func37 (by kernel_rfl) rfl #[.agg #[.int .u64 bb, .int .u64 bc, .slice bm ba.length bl], .string (rdOf ByteArray.empty bz bG)] rfl zx22_4 ?_; (with_reducible refine (ledger_Leave.calls bb bc (fun k_ => ((w.heap.size ≤ k_) ∧ (some k_ ≠ (.slice (some bL) bz.length b0 : Value).ownBlock ∧ (k_ ≠ bk ∧ (k_ ≠ bh ∧ k_ ≠ bd))))) _ _ ba (rdOf ByteArray.empty bz bG) dl dz dy dx _ ?side1 A84.out).mono ?_); (case side1 => exact bg.out); rintro e gv ⟨m5, rfl, ho0, hb⟩; refine ⟨_, rfl, ?_⟩; replace bg := Aside0.mk (Kd.V_below zx22_15 hb); have dT := Aside0.mk (Kd.V_lower (Kd.V_mono (ok' := fun k_ => (w.heap.size ≤ k_) ∧ some k_ ≠ (.slice (some bL) bz.length b0 : Value).ownBlock ∧ k_ ≠ bk ∧ k_ ≠ bh ∧ k_ ≠ bd) ho0 (fun k_ hk_ => ⟨Or.elim hk_ (fun hs_ => hs_.1) (fun hn_ => (Nat.le_trans (below_size zx22_0) hn_)), Or.elim hk_ (fun hs_ => hs_.2.1) (fun hn_ => (Kd.fresh' (Kd.R_lt zx22_5) k_ hn_)), Or.elim hk_ (fun hs_ => hs_.2.2.1) (fun hn_ => (Kd.freshB (g := bk) (o := .cells #[.int .u64 0, .int .u64 0, .slice none 0 0] 25 (0, 0)) zx22_1 k_ hn_)), Or.elim hk_ (fun hs_ => hs_.2.2.2.1) (fun hn_ => (Kd.freshB (g := bh) (o := .cells #[.int .u64 bb, .int .u64 bc, .slice bm ba.length bl] 25 (0, 0)) zx22_2 k_ hn_)), Or.elim hk_ (fun hs_ => hs_.2.2.2.2) (fun hn_ => (Kd.freshB (g := bd) (o := .cells #[.int .u64 bb, .int .u64 bc, .slice bm ba.length bl] 25 (0, 0)) zx22_3 k_ hn_))⟩)) (below_size zx22_0)); replace bD := Aside0.mk (Kd.R_below zx22_5 hb); replace bn := Aside0.mk (blk_below (g := bk) (o := .cells #[.int .u64 0, .int .u64 0, .slice none 0 0] 25 (0, 0)) zx22_1 hb); replace be := Aside0.mk (blk_below (g := bh) (o := .cells #[.int .u64 bb, .int .u64 bc, .slice bm ba.length bl] 25 (0, 0)) zx22_2 hb); replace bj := Aside0.mk (blk_below (g := bd) (o := .cells #[.int .u64 bb, .int .u64 bc, .slice bm ba.length bl] 25 (0, 0)) zx22_3 hb); replace HB := Aside0.mk (below_step zx22_0 hb); (try clear hb); (try clear hb2); (try clear hk); (try clear hi); (try clear ho0); have jB : gv.cell? ⟨bd, 0, none⟩ = some (.int .u64 bb) := (blk_cell bj.out 0).trans rfl; have jA : gv.cell? ⟨bd, 1, none⟩ = some (.int .u64 bc) := (blk_cell bj.out 1).trans rfl; have jz : gv.cell? ⟨bd, 2, none⟩ = some (.slice bm ba.length bl) := (blk_cell bj.out 2).trans rfl; have jd := blk_frozen bj.out 0; have jc := blk_frozen bj.out 1; have jb := blk_frozen bj.out 2; obtain ⟨jY, jJ, jH⟩ := Kd.V_slice dT.out; subst jH))
    go_roundg k1
    case measure => have := HK1.out; omega
    case rel => exact ⟨(wrap64 (bf + 1)), (bb), (bc), (ba), (.slice bm ba.length bl), zx22_20, H', ⟨by have := HK1.out; omega⟩, ⟨by (with_reducible repeat (first | apply Kd.V_alloc | apply Kd.V_drewN | apply Kd.V_drew)); exact Kd.V_mono (Kd.V_far (p := ⟨bd, 2, none⟩) (Kd.V_far (p := ⟨bd, 1, none⟩) (Kd.V_far (p := ⟨bd, 0, none⟩) (Kd.V_mono bg.out (fun k_ hk => (⟨hk, hk.2.2.2.2⟩ : _ ∧ k_ ≠ bd))) (fun _ hk => hk.2) (.int .u64 dl)) (fun _ hk => hk.2) (.int .u64 dz)) (fun _ hk => hk.2) (.slice jY dy.length jJ)) (fun _ hk => ⟨hk.1.1, ⟨hk.1.2.2.1, hk.1.2.2.2.1⟩⟩)⟩, ⟨by (iterate 3 ((with_reducible repeat (first | refine blk_drewN ?_ _ | refine blk_drew ?_ | refine blk_alloc ?_ _)); refine blk_far ?_ bx.out _)); (with_reducible repeat (first | refine blk_drewN ?_ _ | refine blk_drew ?_ | refine blk_alloc ?_ _)); exact bn.out⟩, ⟨by (iterate 3 ((with_reducible repeat (first | refine blk_drewN ?_ _ | refine blk_drew ?_ | refine blk_alloc ?_ _)); refine blk_far ?_ bi.out _)); (with_reducible repeat (first | refine blk_drewN ?_ _ | refine blk_drew ?_ | refine blk_alloc ?_ _)); exact be.out⟩, ⟨by repeat (first | (with_reducible first | exact HB.out | apply below_alloc | apply pw_below_drewN | apply below_drew1 | refine below_set ?_ b1.out | refine below_set ?_ b3.out | refine below_set ?_ b7.out) | exact HB.out)⟩⟩
   rw [if_pos c85] at H
   have jL : (dx == 0) = true := beq_iff_eq.mpr c85
   have jK : (dx != 0) = false := bne_eq_false_iff_eq.mpr c85
   clear c85
   have H' := Aside0.mk H
   clear H
   go_wp2_with (first | ((with_reducible refine gate_callee (f := 37) rfl ?_); refine goesL_ (some 67) rfl rfl Tryd.func37 (by kernel_rfl) rfl #[.agg #[.int .u64 bb, .int .u64 bc, .slice bm ba.length bl], .string (rdOf ByteArray.empty bz bG)] rfl zx22_4 ?_; (with_reducible refine (ledger_Leave.calls bb bc (fun k_ => ((w.heap.size ≤ k_) ∧ (some k_ ≠ (.slice (some bL) bz.length b0 : Value).ownBlock ∧ (k_ ≠ bk ∧ (k_ ≠ bh ∧ k_ ≠ bd))))) _ _ ba (rdOf ByteArray.empty bz bG) dl dz dy dx _ ?side1 A84.out).mono ?_); (case side1 => exact bg.out); rintro e w98 ⟨m5, rfl, ho0, hb⟩; refine ⟨_, rfl, ?_⟩; replace bg := Aside0.mk (Kd.V_below zx22_15 hb); have dT := Aside0.mk (Kd.V_lower (Kd.V_mono (ok' := fun k_ => (w.heap.size ≤ k_) ∧ some k_ ≠ (.slice (some bL) bz.length b0 : Value).ownBlock ∧ k_ ≠ bk ∧ k_ ≠ bh ∧ k_ ≠ bd) ho0 (fun k_ hk_ => ⟨Or.elim hk_ (fun hs_ => hs_.1) (fun hn_ => (Nat.le_trans (below_size zx22_0) hn_)), Or.elim hk_ (fun hs_ => hs_.2.1) (fun hn_ => (Kd.fresh' (Kd.R_lt zx22_5) k_ hn_)), Or.elim hk_ (fun hs_ => hs_.2.2.1) (fun hn_ => (Kd.freshB (g := bk) (o := .cells #[.int .u64 0, .int .u64 0, .slice none 0 0] 25 (0, 0)) zx22_1 k_ hn_)), Or.elim hk_ (fun hs_ => hs_.2.2.2.1) (fun hn_ => (Kd.freshB (g := bh) (o := .cells #[.int .u64 bb, .int .u64 bc, .slice bm ba.length bl] 25 (0, 0)) zx22_2 k_ hn_)), Or.elim hk_ (fun hs_ => hs_.2.2.2.2) (fun hn_ => (Kd.freshB (g := bd) (o := .cells #[.int .u64 bb, .int .u64 bc, .slice bm ba.length bl] 25 (0, 0)) zx22_3 k_ hn_))⟩)) (below_size zx22_0)); replace bD := Aside0.mk (Kd.R_below zx22_5 hb); replace bn := Aside0.mk (blk_below (g := bk) (o := .cells #[.int .u64 0, .int .u64 0, .slice none 0 0] 25 (0, 0)) zx22_1 hb); replace be := Aside0.mk (blk_below (g := bh) (o := .cells #[.int .u64 bb, .int .u64 bc, .slice bm ba.length bl] 25 (0, 0)) zx22_2 hb); replace bj := Aside0.mk (blk_below (g := bd) (o := .cells #[.int .u64 bb, .int .u64 bc, .slice bm ba.length bl] 25 (0, 0)) zx22_3 hb); replace HB := Aside0.mk (below_step zx22_0 hb); (try clear hb); (try clear hb2); (try clear hk); (try clear hi); (try clear ho0); have mG : w98.cell? ⟨bd, 0, none⟩ = some (.int .u64 bb) := (blk_cell bj.out 0).trans rfl; have mF : w98.cell? ⟨bd, 1, none⟩ = some (.int .u64 bc) := (blk_cell bj.out 1).trans rfl; have mE : w98.cell? ⟨bd, 2, none⟩ = some (.slice bm ba.length bl) := (blk_cell bj.out 2).trans rfl; have mb := blk_frozen bj.out 0; have ma := blk_frozen bj.out 1; have j9 := blk_frozen bj.out 2; obtain ⟨d7, d6, jI⟩ := Kd.V_slice dT.out; subst jI; have jE : w98.cell? ⟨bh, 0, none⟩ = some (.int .u64 bb) := (blk_cell be.out 0).trans rfl; have jD : w98.cell? ⟨bh, 1, none⟩ = some (.int .u64 bc) := (blk_cell be.out 1).trans rfl; have jC : w98.cell? ⟨bh, 2, none⟩ = some (.slice bm ba.length bl) := (blk_cell be.out 2).trans rfl; have jg := blk_frozen be.out 0; have jf := blk_frozen be.out 1; have je := blk_frozen be.out 2))
   go_roundg k1
   case measure => have := HK1.out; omega
   case rel => exact ⟨(wrap64 (bf + 1)), (dl), (dz), (dy), (.slice d7 dy.length d6), zx22_20, H', ⟨by have := HK1.out; omega⟩, ⟨by (with_reducible repeat (first | apply Kd.V_alloc | apply Kd.V_drewN | apply Kd.V_drew)); exact Kd.V_mono (Kd.V_far (p := ⟨bh, 2, none⟩) (Kd.V_far (p := ⟨bh, 1, none⟩) (Kd.V_far (p := ⟨bh, 0, none⟩) (Kd.V_far (p := ⟨bd, 2, none⟩) (Kd.V_far (p := ⟨bd, 1, none⟩) (Kd.V_far (p := ⟨bd, 0, none⟩) (Kd.V_mono (Kd.V_mono dT.out (fun k_ hk => (⟨hk, hk.2.2.2.2⟩ : _ ∧ k_ ≠ bd))) (fun k_ hk => (⟨hk, hk.1.2.2.2.1⟩ : _ ∧ k_ ≠ bh))) (fun _ hk => hk.1.2) (.int .u64 dl)) (fun _ hk => hk.1.2) (.int .u64 dz)) (fun _ hk => hk.1.2) (.slice d7 dy.length d6)) (fun _ hk => hk.2) (.int .u64 dl)) (fun _ hk => hk.2) (.int .u64 dz)) (fun _ hk => hk.2) (.slice d7 dy.length d6)) (fun _ hk => ⟨hk.1.1.1, ⟨hk.1.1.2.2.1, hk.1.1.2.2.2.1⟩⟩)⟩, ⟨by (iterate 3 ((with_reducible repeat (first | refine blk_drewN ?_ _ | refine blk_drew ?_ | refine blk_alloc ?_ _)); refine blk_far ?_ bK.out _)); (iterate 3 ((with_reducible repeat (first | refine blk_drewN ?_ _ | refine blk_drew ?_ | refine blk_alloc ?_ _)); refine blk_far ?_ bx.out _)); (with_reducible repeat (first | refine blk_drewN ?_ _ | refine blk_drew ?_ | refine blk_alloc ?_ _)); exact bn.out⟩, ⟨by (with_reducible repeat (first | refine blk_drewN ?_ _ | refine blk_drew ?_ | refine blk_alloc ?_ _)); refine blk_put (cs := #[.int .u64 dl, .int .u64 dz, .slice bm ba.length bl]) ?_ 2 _ rfl; (with_reducible repeat (first | refine blk_drewN ?_ _ | refine blk_drew ?_ | refine blk_alloc ?_ _)); refine blk_put (cs := #[.int .u64 dl, .int .u64 bc, .slice bm ba.length bl]) ?_ 1 _ rfl; (with_reducible repeat (first | refine blk_drewN ?_ _ | refine blk_drew ?_ | refine blk_alloc ?_ _)); refine blk_put (cs := #[.int .u64 bb, .int .u64 bc, .slice bm ba.length bl]) ?_ 0 _ rfl; (iterate 3 ((with_reducible repeat (first | refine blk_drewN ?_ _ | refine blk_drew ?_ | refine blk_alloc ?_ _)); refine blk_far ?_ bi.out _)); (with_reducible repeat (first | refine blk_drewN ?_ _ | refine blk_drew ?_ | refine blk_alloc ?_ _)); exact be.out⟩, ⟨by repeat (first | (with_reducible first | exact HB.out | apply below_alloc | apply pw_below_drewN | apply below_drew1 | refine below_set ?_ b1.out | refine below_set ?_ b3.out | refine below_set ?_ b7.out) | exact HB.out)⟩⟩
  rw [if_neg c83] at H
  have jN : (bI == 5) = false := beq_eq_false_iff_ne.mpr c83
  have jM : (bI != 5) = true := bne_iff_ne.mpr c83
  by_cases d3 : bI < 10
  case neg =>
   rw [if_neg d3] at H
   have gU : decide (bI < 10) = false := decide_eq_false d3
   clear d3
   replace H := Option.bind_eq_some_iff.mp H
   obtain ⟨dj, gp, H⟩ := H
   replace H : ((ledger_Evict.f k1 bb bc ba (IntKind.u64.wrap (bb + (IntKind.u64.wrap (dj))))).bind fun bH => (if bH.2.2.2 = 0 then (postroomlaw11_run.l0 k1 l0 (wrap64 (bf + 1)) bH.1 bH.2.1 bH.2.2.1) else (postroomlaw11_run.l0 k1 l0 (wrap64 (bf + 1)) bb bc ba))) = some (r1, r2, r3) := H
   have oC := Aside0.mk gp
   clear gp
   replace H := Option.bind_eq_some_iff.mp H
   obtain ⟨⟨dv, dK, dJ, dI⟩, go, H⟩ := H
   replace H : (if dI = 0 then (postroomlaw11_run.l0 k1 l0 (wrap64 (bf + 1)) dv dK dJ) else (postroomlaw11_run.l0 k1 l0 (wrap64 (bf + 1)) bb bc ba)) = some (r1, r2, r3) := H
   have oB := Aside0.mk go
   clear go
   have HP_ := Aside0.mk H
   clear H
   try go_wp2
   replace bg := Aside0.mk (Kd.V_drew bg.out)
   replace bD := Aside0.mk (Kd.R_drew bD.out)
   replace bn := Aside0.mk (blk_drew bn.out)
   replace be := Aside0.mk (blk_drew be.out)
   replace bj := Aside0.mk (blk_drew bj.out)
   replace HB := Aside0.mk (below_drew1 HB.out)
   have gC : 0 ≤ (bf : Int) := of_decide_eq_true zx22_18
   have gw : bf < (l0.length : Int) := of_decide_eq_true zx22_18
   obtain ⟨jT, oo, da, b9, b8⟩ := at_T75 HR0.out bf gC gw
   have bW := b8
   have bX := b9
   have bY := da
   obtain rfl : bA = jT := (by injection oo)
   replace da := (HB.out.cell (World.block_lt_of_cell? w _ da)).trans da
   replace b9 := (HB.out.cell (World.block_lt_of_cell? w _ b9)).trans b9
   replace b8 := (HB.out.cell (World.block_lt_of_cell? w _ b8)).trans b8
   replace gC := eq_true gC
   replace gw := eq_true gw
   refine start_ (n := 17) (S := fun w' => w'.cell? ⟨bh, 0, none⟩ = some (.int .u64 bb) ∧ w'.cell? ⟨bh, 1, none⟩ = some (.int .u64 bc) ∧ w'.cell? ⟨bh, 2, none⟩ = some (.slice bm ba.length bl) ∧ w'.cell? (bA.add ((bf).toNat * 3)) = some (.int .i64 ((rd_T75 l0 bf).f0)) ∧ w'.cell? ⟨(bA.add ((bf).toNat * 3)).block, (bA.add ((bf).toNat * 3)).off + 1, none⟩ = some (.int .i64 ((rd_T75 l0 bf).f1)) ∧ w'.cell? ⟨(bA.add ((bf).toNat * 3)).block, (bA.add ((bf).toNat * 3)).off + 2, none⟩ = some (.int .i64 ((rd_T75 l0 bf).f2))) (ds := []) #[Ff,Ff,Ff,Ff,Ff,Ff,Ff,Ff,Ff,Ff,Ff,Ff,Ff,Ff,Ff,Ff,Ff] (by kernel_rfl) rfl rfl ⟨(blk_cell be.out 0).trans rfl, (blk_cell be.out 1).trans rfl, (blk_cell be.out 2).trans rfl, ((HB.out.cell (World.block_lt_of_cell? w _ bY)).trans bY), ((HB.out.cell (World.block_lt_of_cell? w _ bX)).trans bX), ((HB.out.cell (World.block_lt_of_cell? w _ bW)).trans bW)⟩ (fun hHeld => ?_); refine with_tabW postroomlaw11_run.tab9 postroomlaw11_run.bits9 (fun HT_ HW_ => ?_)
   generalize w28.drew = oZ at bg bD bn be bj HB da b9 b8 hHeld ⊢
   refine pp_ 1 (some 34) HT_.out ?_
   refine pp_ 3 (some 36) HT_.out ?_
   refine pp_ 4 (some 37) HT_.out ?_
   refine pp_ 5 (some 38) HT_.out ?_
   refine pp_ 6 (some 39) HT_.out ?_
   refine take_ (i := 0) (N := some 33) (v := ?_) (a' := ?_) #[Tt,Tt,Ff,Tt,Tt,Tt,Tt,Ff,Ff,Ff,Ff,Ff,Ff,Ff,Ff,Ff,Ff] rfl rfl (take_ofW HT_.out HW_.out (by kernel_rfl)) (fun _ _ _ h => h) (Or.inl ⟨by rfl, ?_⟩) hHeld ?_ ?_
   rotate_left
   ·rintro w' ⟨s0, s1, s2, s3, s4, s5⟩
    go_simp
    with_reducible rfl
   rotate_left
   ·simp only [Act.put, List.setIfInBounds_toArray, List.set_cons_zero, List.set_cons_succ, i64_w, i32_w]
    rfl
   refine take_ (i := 2) (N := some 35) (v := ?_) (a' := ?_) #[Tt,Tt,Tt,Tt,Tt,Tt,Tt,Ff,Ff,Ff,Ff,Ff,Ff,Ff,Ff,Ff,Ff] rfl rfl (take_ofW HT_.out HW_.out (by kernel_rfl)) (fun _ _ _ h => h) (Or.inl ⟨by rfl, ?_⟩) hHeld ?_ ?_
   rotate_left
   ·rintro w' ⟨s0, s1, s2, s3, s4, s5⟩
    go_simp
    with_reducible rfl
   rotate_left
   ·simp only [Act.put, List.setIfInBounds_toArray, List.set_cons_zero, List.set_cons_succ, i64_w, i32_w]
    rfl
   refine take_ (i := 7) (N := some 40) (v := ?_) (a' := ?_) #[Tt,Tt,Tt,Tt,Tt,Tt,Tt,Tt,Ff,Ff,Ff,Ff,Ff,Ff,Ff,Ff,Ff] rfl rfl (take_ofW HT_.out HW_.out (by kernel_rfl)) (fun _ _ _ h => h) (Or.inl ⟨by rfl, ?_⟩) hHeld ?_ ?_
   rotate_left
   ·rintro w' ⟨s0, s1, s2, s3, s4, s5⟩
    go_simp
    with_reducible rfl
   rotate_left
   ·simp only [Act.put, List.setIfInBounds_toArray, List.set_cons_zero, List.set_cons_succ, i64_w, i32_w]
    rfl
   refine one_ (i := 8) (N := some 41) #[Tt,Tt,Tt,Tt,Tt,Tt,Tt,Tt,Tt,Ff,Ff,Ff,Ff,Ff,Ff,Ff,Ff] rfl rfl (one_of HT_.out (by kernel_rfl)) (by decide) (fun K hK => ?_)
   refine goes_ Tryd.func19 (by kernel_rfl) rfl #[.int .i64 ((rd_T75 l0 bf).f2), .int .i64 3] (by rfl) rfl rfl zx22_4 ?_
   with_reducible refine (postroomlaw11_pick.calls ((rd_T75 l0 bf).f2) 3 dj _ oC.out).mono ?_
   rintro e w' ⟨rfl, ⟨nd, rfl⟩⟩
   refine ⟨_, rfl, ?_⟩
   refine hK.out _ _ ⟨(blk_cell be.out 0).trans rfl, (blk_cell be.out 1).trans rfl, (blk_cell be.out 2).trans rfl, ((HB.out.cell (World.block_lt_of_cell? w _ bY)).trans bY), ((HB.out.cell (World.block_lt_of_cell? w _ bX)).trans bX), ((HB.out.cell (World.block_lt_of_cell? w _ bW)).trans bW)⟩ (fun hHeld => ?_)
   clear hK K
   refine na_ 41 ?_
   refine pp_ 9 (some 42) HT_.out ?_
   refine pp_ 10 (some 43) HT_.out ?_
   refine one_ (i := 11) (N := some 44) #[Tt,Tt,Tt,Tt,Tt,Tt,Tt,Tt,Tt,Tt,Tt,Tt,Ff,Ff,Ff,Ff,Ff] rfl rfl (one_of HT_.out (by kernel_rfl)) (by decide) (fun K hK => ?_)
   refine goes_ Tryd.func22 (by kernel_rfl) rfl #[.agg #[.int .u64 bb, .int .u64 bc, .slice bm ba.length bl], .int .u64 (IntKind.u64.wrap (bb + (IntKind.u64.wrap (dj))))] (by rfl) rfl rfl zx22_4 ?_
   with_reducible refine (ledger_Evict.calls k1 bb bc (fun k_ => ((w.heap.size ≤ k_) ∧ (some k_ ≠ (.slice (some bL) bz.length b0 : Value).ownBlock ∧ (k_ ≠ bk ∧ (k_ ≠ bh ∧ k_ ≠ bd))))) _ _ ba (IntKind.u64.wrap (bb + (IntKind.u64.wrap (dj)))) dv dK dJ dI _ ?side1 oB.out).mono ?_
   (case side1 => exact bg.out)
   rintro e gt ⟨o1, rfl, ho0, hb⟩
   refine ⟨_, rfl, ?_⟩
   have n0_ := Aside0.mk (Kd.V_below zx22_15 hb)
   have n2_ := Aside0.mk (Kd.V_lower (Kd.V_mono (ok' := fun k_ => (w.heap.size ≤ k_) ∧ some k_ ≠ (.slice (some bL) bz.length b0 : Value).ownBlock ∧ k_ ≠ bk ∧ k_ ≠ bh ∧ k_ ≠ bd) ho0 (fun k_ hk_ => ⟨Or.elim hk_ (fun hs_ => hs_.1) (fun hn_ => (Nat.le_trans (below_size zx22_0) hn_)), Or.elim hk_ (fun hs_ => hs_.2.1) (fun hn_ => (Kd.fresh' (Kd.R_lt zx22_5) k_ hn_)), Or.elim hk_ (fun hs_ => hs_.2.2.1) (fun hn_ => (Kd.freshB (g := bk) (o := .cells #[.int .u64 0, .int .u64 0, .slice none 0 0] 25 (0, 0)) zx22_1 k_ hn_)), Or.elim hk_ (fun hs_ => hs_.2.2.2.1) (fun hn_ => (Kd.freshB (g := bh) (o := .cells #[.int .u64 bb, .int .u64 bc, .slice bm ba.length bl] 25 (0, 0)) zx22_2 k_ hn_)), Or.elim hk_ (fun hs_ => hs_.2.2.2.2) (fun hn_ => (Kd.freshB (g := bd) (o := .cells #[.int .u64 bb, .int .u64 bc, .slice bm ba.length bl] 25 (0, 0)) zx22_3 k_ hn_))⟩)) (below_size zx22_0))
   have n3_ := Aside0.mk (blk_below (g := bk) (o := .cells #[.int .u64 0, .int .u64 0, .slice none 0 0] 25 (0, 0)) zx22_1 hb)
   have n4_ := Aside0.mk (blk_below (g := bh) (o := .cells #[.int .u64 bb, .int .u64 bc, .slice bm ba.length bl] 25 (0, 0)) zx22_2 hb)
   have n5_ := Aside0.mk (blk_below (g := bd) (o := .cells #[.int .u64 bb, .int .u64 bc, .slice bm ba.length bl] 25 (0, 0)) zx22_3 hb)
   have n6_ := Aside0.mk (below_step zx22_0 hb)
   clear bg
   (try clear bD)
   clear bn
   clear be
   clear bj
   clear HB
   have bg := n0_
   have gi := n2_
   have bn := n3_
   have be := n4_
   have bj := n5_
   have HB := n6_
   clear n0_ n2_ n3_ n4_ n5_ n6_
   (try clear hb)
   (try clear hb2)
   (try clear hk)
   (try clear hi)
   (try clear ho0)
   obtain ⟨dW, dR, gb⟩ := Kd.V_slice gi.out
   (first | subst gb | (injection gb with f1_ f2_ f3_; have f4_ := f1_.symm; have f5_ := f3_.symm; clear f1_ f2_ f3_; subst f4_; subst f5_))
   refine hK.out _ _ ⟨(blk_cell be.out 0).trans rfl, (blk_cell be.out 1).trans rfl, (blk_cell be.out 2).trans rfl, ((HB.out.cell (World.block_lt_of_cell? w _ bY)).trans bY), ((HB.out.cell (World.block_lt_of_cell? w _ bX)).trans bX), ((HB.out.cell (World.block_lt_of_cell? w _ bW)).trans bW)⟩ (fun hHeld => ?_)
   clear hK K
   refine na_ 44 ?_
   refine pp_ 12 (some 32) HT_.out ?_
   refine pp_ 13 (some 45) HT_.out ?_
   refine pp_ 14 (some 46) HT_.out ?_
   refine one_ (i := 15) (N := none) #[Tt,Tt,Tt,Tt,Tt,Tt,Tt,Tt,Tt,Tt,Tt,Tt,Tt,Tt,Tt,Tt,Ff] rfl rfl (one_of HT_.out (by kernel_rfl)) (by decide) (fun K hK => ?_)
   have oI : gt.cell? ⟨bd, 0, none⟩ = some (.int .u64 bb) := (blk_cell bj.out 0).trans rfl
   have od := blk_frozen bj.out 0
   have hj := bx.out
   have hh := bi.out
   have hB := bU.out
   have hA := bS.out
   have oH : gt.cell? ⟨bd, 1, none⟩ = some (.int .u64 bc) := (blk_cell bj.out 1).trans rfl
   have oc := blk_frozen bj.out 1
   have hf := bx.out
   have he := bi.out
   have hz := bU.out
   have hy := bS.out
   have oG : gt.cell? ⟨bd, 2, none⟩ = some (.slice bm ba.length bl) := (blk_cell bj.out 2).trans rfl
   have ob := blk_frozen bj.out 2
   have hc := bx.out
   have ha := bi.out
   have hx := bU.out
   have hv := bS.out
   refine skip_ (w1 := ?_) (by rfl) rfl ?_ ?_
   rotate_left
   ·go_simp
    rfl
   refine hK.out _ _ ⟨((cell_far (p := ⟨bd, _, none⟩) bi.out _).trans (((cell_far (p := ⟨bd, _, none⟩) bi.out _).trans (((cell_far (p := ⟨bd, _, none⟩) bi.out _).trans (hHeld.1)))))), ((cell_far (p := ⟨bd, _, none⟩) bi.out _).trans (((cell_far (p := ⟨bd, _, none⟩) bi.out _).trans (((cell_far (p := ⟨bd, _, none⟩) bi.out _).trans (hHeld.2.1)))))), ((cell_far (p := ⟨bd, _, none⟩) bi.out _).trans (((cell_far (p := ⟨bd, _, none⟩) bi.out _).trans (((cell_far (p := ⟨bd, _, none⟩) bi.out _).trans (hHeld.2.2.1)))))), ((cell_far (p := ⟨bd, _, none⟩) zx22_12 _).trans (((cell_far (p := ⟨bd, _, none⟩) zx22_12 _).trans (((cell_far (p := ⟨bd, _, none⟩) zx22_12 _).trans (hHeld.2.2.2.1)))))), ((cell_far (p := ⟨bd, _, none⟩) zx22_13 _).trans (((cell_far (p := ⟨bd, _, none⟩) zx22_13 _).trans (((cell_far (p := ⟨bd, _, none⟩) zx22_13 _).trans (hHeld.2.2.2.2.1)))))), ((cell_far (p := ⟨bd, _, none⟩) zx22_14 _).trans (((cell_far (p := ⟨bd, _, none⟩) zx22_14 _).trans (((cell_far (p := ⟨bd, _, none⟩) zx22_14 _).trans (hHeld.2.2.2.2.2))))))⟩ (fun hHeld => ?_)
   clear hK K
   refine pp_ 16 (some 7) HT_.out ?_
   refine done_ (done_of HT_.out (by kernel_rfl)) ?_
   by_cases dP : dI = 0
   case neg =>
    have H := HP_.out
    clear HP_
    rw [if_neg dP] at H
    have gR : (dI == 0) = false := beq_eq_false_iff_ne.mpr dP
    have gQ : (dI != 0) = true := bne_iff_ne.mpr dP
    have H' := Aside0.mk H
    clear H
    try go_wp2
    go_roundg k1
    case measure => have := HK1.out; omega
    case rel => exact ⟨(wrap64 (bf + 1)), (bb), (bc), (ba), (.slice bm ba.length bl), zx22_20, H', ⟨by have := HK1.out; omega⟩, ⟨by (with_reducible repeat (first | apply Kd.V_alloc | apply Kd.V_drewN | apply Kd.V_drew)); exact Kd.V_mono (Kd.V_far (p := ⟨bd, 2, none⟩) (Kd.V_far (p := ⟨bd, 1, none⟩) (Kd.V_far (p := ⟨bd, 0, none⟩) (Kd.V_mono bg.out (fun k_ hk => (⟨hk, hk.2.2.2.2⟩ : _ ∧ k_ ≠ bd))) (fun _ hk => hk.2) (.int .u64 dv)) (fun _ hk => hk.2) (.int .u64 dK)) (fun _ hk => hk.2) (.slice dW dJ.length dR)) (fun _ hk => ⟨hk.1.1, ⟨hk.1.2.2.1, hk.1.2.2.2.1⟩⟩)⟩, ⟨by (iterate 3 ((with_reducible repeat (first | refine blk_drewN ?_ _ | refine blk_drew ?_ | refine blk_alloc ?_ _)); refine blk_far ?_ bx.out _)); (with_reducible repeat (first | refine blk_drewN ?_ _ | refine blk_drew ?_ | refine blk_alloc ?_ _)); exact bn.out⟩, ⟨by (iterate 3 ((with_reducible repeat (first | refine blk_drewN ?_ _ | refine blk_drew ?_ | refine blk_alloc ?_ _)); refine blk_far ?_ bi.out _)); (with_reducible repeat (first | refine blk_drewN ?_ _ | refine blk_drew ?_ | refine blk_alloc ?_ _)); exact be.out⟩, ⟨by repeat (first | (with_reducible first | exact HB.out | apply below_alloc | apply pw_below_drewN | apply below_drew1 | refine below_set ?_ b1.out | refine below_set ?_ b3.out | refine below_set ?_ b7.out) | exact HB.out)⟩⟩
   have H := HP_.out
   clear HP_
   rw [if_pos dP] at H
   have gR : (dI == 0) = true := beq_iff_eq.mpr dP
   have gQ : (dI != 0) = false := bne_eq_false_iff_eq.mpr dP
   clear dP
   have H' := Aside0.mk H
   clear H
   obtain ⟨js, jr, jq, hU, hT, hS⟩ := cx22_bc3 bj.out
   obtain ⟨jp, jo, jn, hR, hQ, hP⟩ := cx22_bc3 be.out
   try go_wp2
   go_roundg k1
   case measure => have := HK1.out; omega
   case rel => exact ⟨(wrap64 (bf + 1)), (dv), (dK), (dJ), (.slice dW dJ.length dR), zx22_20, H', ⟨by have := HK1.out; omega⟩, ⟨by (with_reducible repeat (first | apply Kd.V_alloc | apply Kd.V_drewN | apply Kd.V_drew)); exact Kd.V_mono (Kd.V_far (p := ⟨bh, 2, none⟩) (Kd.V_far (p := ⟨bh, 1, none⟩) (Kd.V_far (p := ⟨bh, 0, none⟩) (Kd.V_far (p := ⟨bd, 2, none⟩) (Kd.V_far (p := ⟨bd, 1, none⟩) (Kd.V_far (p := ⟨bd, 0, none⟩) (Kd.V_mono (Kd.V_mono gi.out (fun k_ hk => (⟨hk, hk.2.2.2.2⟩ : _ ∧ k_ ≠ bd))) (fun k_ hk => (⟨hk, hk.1.2.2.2.1⟩ : _ ∧ k_ ≠ bh))) (fun _ hk => hk.1.2) (.int .u64 dv)) (fun _ hk => hk.1.2) (.int .u64 dK)) (fun _ hk => hk.1.2) (.slice dW dJ.length dR)) (fun _ hk => hk.2) (.int .u64 dv)) (fun _ hk => hk.2) (.int .u64 dK)) (fun _ hk => hk.2) (.slice dW dJ.length dR)) (fun _ hk => ⟨hk.1.1.1, ⟨hk.1.1.2.2.1, hk.1.1.2.2.2.1⟩⟩)⟩, ⟨by (iterate 3 ((with_reducible repeat (first | refine blk_drewN ?_ _ | refine blk_drew ?_ | refine blk_alloc ?_ _)); refine blk_far ?_ bK.out _)); (iterate 3 ((with_reducible repeat (first | refine blk_drewN ?_ _ | refine blk_drew ?_ | refine blk_alloc ?_ _)); refine blk_far ?_ bx.out _)); (with_reducible repeat (first | refine blk_drewN ?_ _ | refine blk_drew ?_ | refine blk_alloc ?_ _)); exact bn.out⟩, ⟨by (with_reducible repeat (first | refine blk_drewN ?_ _ | refine blk_drew ?_ | refine blk_alloc ?_ _)); refine blk_put (cs := #[.int .u64 dv, .int .u64 dK, .slice bm ba.length bl]) ?_ 2 _ rfl; (with_reducible repeat (first | refine blk_drewN ?_ _ | refine blk_drew ?_ | refine blk_alloc ?_ _)); refine blk_put (cs := #[.int .u64 dv, .int .u64 bc, .slice bm ba.length bl]) ?_ 1 _ rfl; (with_reducible repeat (first | refine blk_drewN ?_ _ | refine blk_drew ?_ | refine blk_alloc ?_ _)); refine blk_put (cs := #[.int .u64 bb, .int .u64 bc, .slice bm ba.length bl]) ?_ 0 _ rfl; (iterate 3 ((with_reducible repeat (first | refine blk_drewN ?_ _ | refine blk_drew ?_ | refine blk_alloc ?_ _)); refine blk_far ?_ bi.out _)); (with_reducible repeat (first | refine blk_drewN ?_ _ | refine blk_drew ?_ | refine blk_alloc ?_ _)); exact be.out⟩, ⟨by repeat (first | (with_reducible first | exact HB.out | apply below_alloc | apply pw_below_drewN | apply below_drew1 | refine below_set ?_ b1.out | refine below_set ?_ b3.out | refine below_set ?_ b7.out) | exact HB.out)⟩⟩
  rw [if_pos d3] at H
  have gU : decide (bI < 10) = true := decide_eq_true d3
  clear d3
  replace H := Option.bind_eq_some_iff.mp H
  obtain ⟨b4, gs, H⟩ := H
  replace H : ((some (([97, 114] : List Int) : List Int)).bind fun bJ => ((postroomlaw11_pick.f ((rd_T75 l0 bf).f2) 2).bind fun bE => (if 0 ≤ bE then (if bE < (bJ.length : Int) then ((ledger_Done.f k1 bb bc ba (rdOf ByteArray.empty bz bG) (IntKind.u64.wrap (1 + (IntKind.u64.wrap (b4)))) (rd bJ bE)).bind fun bC => (if bC.2.2.2 = 0 then (postroomlaw11_run.l0 k1 l0 (wrap64 (bf + 1)) bC.1 bC.2.1 bC.2.2.1) else (postroomlaw11_run.l0 k1 l0 (wrap64 (bf + 1)) bb bc ba))) else (none)) else (none)))) = some (r1, r2, r3) := H
  have j6 := Aside0.mk gs
  clear gs
  obtain ⟨bJ, dD⟩ : ∃ y_ : List Int, y_ = (([97, 114] : List Int)) := ⟨_, rfl⟩
  replace H : ((postroomlaw11_pick.f ((rd_T75 l0 bf).f2) 2).bind fun bE => (if 0 ≤ bE then (if bE < (bJ.length : Int) then ((ledger_Done.f k1 bb bc ba (rdOf ByteArray.empty bz bG) (IntKind.u64.wrap (1 + (IntKind.u64.wrap (b4)))) (rd bJ bE)).bind fun bC => (if bC.2.2.2 = 0 then (postroomlaw11_run.l0 k1 l0 (wrap64 (bf + 1)) bC.1 bC.2.1 bC.2.2.1) else (postroomlaw11_run.l0 k1 l0 (wrap64 (bf + 1)) bb bc ba))) else (none)) else (none))) = some (r1, r2, r3) := by first | (rw [dD]; with_reducible exact H) | (have H2_ := (Option.bind_some _ _).symm.trans H; rw [dD]; with_reducible exact H2_) | (have H2_ := (Option.bind_some _ _).symm.trans H; with_reducible exact H2_) | with_reducible exact H | (rw [dD]; exact H) | exact H
  have dh := Aside0.mk dD
  clear dD
  replace H := Option.bind_eq_some_iff.mp H
  obtain ⟨bE, gr, H⟩ := H
  replace H : (if 0 ≤ bE then (if bE < (bJ.length : Int) then ((ledger_Done.f k1 bb bc ba (rdOf ByteArray.empty bz bG) (IntKind.u64.wrap (1 + (IntKind.u64.wrap (b4)))) (rd bJ bE)).bind fun bC => (if bC.2.2.2 = 0 then (postroomlaw11_run.l0 k1 l0 (wrap64 (bf + 1)) bC.1 bC.2.1 bC.2.2.1) else (postroomlaw11_run.l0 k1 l0 (wrap64 (bf + 1)) bb bc ba))) else (none)) else (none)) = some (r1, r2, r3) := H
  have gX := Aside0.mk gr
  clear gr
  by_cases ga : 0 ≤ bE
  case neg =>
   rw [if_neg ga] at H
   exact absurd H (by simp)
  rw [if_pos ga] at H
  have oz : decide (0 ≤ bE) = true := decide_eq_true ga
  clear ga
  by_cases d9 : bE < (bJ.length : Int)
  case neg =>
   rw [if_neg d9] at H
   exact absurd H (by simp)
  rw [if_pos d9] at H
  have oy : decide (bE < (bJ.length : Int)) = true := decide_eq_true d9
  clear d9
  replace H := Option.bind_eq_some_iff.mp H
  obtain ⟨⟨dw, dN, dM, dL⟩, gq, H⟩ := H
  replace H : (if dL = 0 then (postroomlaw11_run.l0 k1 l0 (wrap64 (bf + 1)) dw dN dM) else (postroomlaw11_run.l0 k1 l0 (wrap64 (bf + 1)) bb bc ba)) = some (r1, r2, r3) := H
  have oD := Aside0.mk gq
  clear gq
  have HP_ := Aside0.mk H
  clear H
  try go_wp2
  have oF : (0 ≤ (bE : Int)) = True := eq_true (of_decide_eq_true zx22_18)
  have oE : (bE < (bJ.length : Int)) = True := eq_true (of_decide_eq_true zx22_18)
  replace bg := Aside0.mk (Kd.V_drew bg.out)
  replace bD := Aside0.mk (Kd.R_drew bD.out)
  replace bn := Aside0.mk (blk_drew bn.out)
  replace be := Aside0.mk (blk_drew be.out)
  replace bj := Aside0.mk (blk_drew bj.out)
  replace HB := Aside0.mk (below_drew1 HB.out)
  have gE : 0 ≤ (bf : Int) := of_decide_eq_true zx22_18
  have gy : bf < (l0.length : Int) := of_decide_eq_true zx22_18
  obtain ⟨jW, os, dg, df, de⟩ := at_T75 HR0.out bf gE gy
  have br := de
  have bu := df
  have bw := dg
  obtain rfl : bA = jW := (by injection os)
  replace dg := (HB.out.cell (World.block_lt_of_cell? w _ dg)).trans dg
  replace df := (HB.out.cell (World.block_lt_of_cell? w _ df)).trans df
  replace de := (HB.out.cell (World.block_lt_of_cell? w _ de)).trans de
  replace gE := eq_true gE
  replace gy := eq_true gy
  have gD : 0 ≤ (bf : Int) := of_decide_eq_true zx22_18
  have gx : bf < (l0.length : Int) := of_decide_eq_true zx22_18
  obtain ⟨jV, oq, dd, dc, db⟩ := at_T75 HR0.out bf gD gx
  have bo := db
  have bp := dc
  have bq := dd
  obtain rfl : bA = jV := (by injection oq)
  replace dd := (HB.out.cell (World.block_lt_of_cell? w _ dd)).trans dd
  replace dc := (HB.out.cell (World.block_lt_of_cell? w _ dc)).trans dc
  replace db := (HB.out.cell (World.block_lt_of_cell? w _ db)).trans db
  replace gD := eq_true gD
  replace gx := eq_true gx
  refine start_ (n := 25) (S := fun w' => w'.cell? ⟨bh, 0, none⟩ = some (.int .u64 bb) ∧ w'.cell? ⟨bh, 1, none⟩ = some (.int .u64 bc) ∧ w'.cell? ⟨bh, 2, none⟩ = some (.slice bm ba.length bl) ∧ w'.cell? (bA.add ((bf).toNat * 3)) = some (.int .i64 ((rd_T75 l0 bf).f0)) ∧ w'.cell? ⟨(bA.add ((bf).toNat * 3)).block, (bA.add ((bf).toNat * 3)).off + 1, none⟩ = some (.int .i64 ((rd_T75 l0 bf).f1)) ∧ w'.cell? ⟨(bA.add ((bf).toNat * 3)).block, (bA.add ((bf).toNat * 3)).off + 2, none⟩ = some (.int .i64 ((rd_T75 l0 bf).f2)) ∧ w'.cell? (bA.add ((bf).toNat * 3)) = some (.int .i64 ((rd_T75 l0 bf).f0)) ∧ w'.cell? ⟨(bA.add ((bf).toNat * 3)).block, (bA.add ((bf).toNat * 3)).off + 1, none⟩ = some (.int .i64 ((rd_T75 l0 bf).f1)) ∧ w'.cell? ⟨(bA.add ((bf).toNat * 3)).block, (bA.add ((bf).toNat * 3)).off + 2, none⟩ = some (.int .i64 ((rd_T75 l0 bf).f2))) (ds := []) #[Ff,Ff,Ff,Ff,Ff,Ff,Ff,Ff,Ff,Ff,Ff,Ff,Ff,Ff,Ff,Ff,Ff,Ff,Ff,Ff,Ff,Ff,Ff,Ff,Ff] (by kernel_rfl) rfl rfl ⟨(blk_cell be.out 0).trans rfl, (blk_cell be.out 1).trans rfl, (blk_cell be.out 2).trans rfl, ((HB.out.cell (World.block_lt_of_cell? w _ bw)).trans bw), ((HB.out.cell (World.block_lt_of_cell? w _ bu)).trans bu), ((HB.out.cell (World.block_lt_of_cell? w _ br)).trans br), ((HB.out.cell (World.block_lt_of_cell? w _ bq)).trans bq), ((HB.out.cell (World.block_lt_of_cell? w _ bp)).trans bp), ((HB.out.cell (World.block_lt_of_cell? w _ bo)).trans bo)⟩ (fun hHeld => ?_); refine with_tabW postroomlaw11_run.tab17 postroomlaw11_run.bits17 (fun HT_ HW_ => ?_)
  generalize w28.drew = o0 at bg bD bn be bj HB dg df de dd dc db hHeld ⊢
  refine pp_ 1 (some 75) HT_.out ?_
  refine pp_ 2 (some 76) HT_.out ?_
  refine pp_ 3 (some 77) HT_.out ?_
  refine pp_ 4 (some 78) HT_.out ?_
  refine pp_ 5 (some 79) HT_.out ?_
  refine pp_ 11 (some 85) HT_.out ?_
  refine pp_ 12 (some 86) HT_.out ?_
  refine pp_ 13 (some 87) HT_.out ?_
  refine pp_ 14 (some 88) HT_.out ?_
  refine take_ (i := 0) (N := some 74) (v := ?_) (a' := ?_) #[Tt,Tt,Tt,Tt,Tt,Tt,Ff,Ff,Ff,Ff,Ff,Tt,Tt,Tt,Tt,Ff,Ff,Ff,Ff,Ff,Ff,Ff,Ff,Ff,Ff] rfl rfl (take_ofW HT_.out HW_.out (by kernel_rfl)) (fun _ _ _ h => h) (Or.inl ⟨by rfl, ?_⟩) hHeld ?_ ?_
  rotate_left
  ·rintro w' ⟨s0, s1, s2, s3, s4, s5, s6, s7, s8⟩
   go_simp
   with_reducible rfl
  rotate_left
  ·simp only [Act.put, List.setIfInBounds_toArray, List.set_cons_zero, List.set_cons_succ, i64_w, i32_w]
   rfl
  refine take_ (i := 6) (N := some 80) (v := ?_) (a' := ?_) #[Tt,Tt,Tt,Tt,Tt,Tt,Tt,Ff,Ff,Ff,Ff,Tt,Tt,Tt,Tt,Ff,Ff,Ff,Ff,Ff,Ff,Ff,Ff,Ff,Ff] rfl rfl (take_ofW HT_.out HW_.out (by kernel_rfl)) (fun _ _ _ h => h) (Or.inl ⟨by rfl, ?_⟩) hHeld ?_ ?_
  rotate_left
  ·rintro w' ⟨s0, s1, s2, s3, s4, s5, s6, s7, s8⟩
   go_simp
   with_reducible rfl
  rotate_left
  ·simp only [Act.put, List.setIfInBounds_toArray, List.set_cons_zero, List.set_cons_succ, i64_w, i32_w]
   rfl
  refine take_ (i := 15) (N := some 89) (v := ?_) (a' := ?_) #[Tt,Tt,Tt,Tt,Tt,Tt,Tt,Ff,Ff,Ff,Ff,Tt,Tt,Tt,Tt,Tt,Ff,Ff,Ff,Ff,Ff,Ff,Ff,Ff,Ff] rfl rfl (take_ofW HT_.out HW_.out (by kernel_rfl)) (fun _ _ _ h => h) (Or.inl ⟨by rfl, ?_⟩) hHeld ?_ ?_
  rotate_left
  ·rintro w' ⟨s0, s1, s2, s3, s4, s5, s6, s7, s8⟩
   go_simp
   with_reducible rfl
  rotate_left
  ·simp only [Act.put, List.setIfInBounds_toArray, List.set_cons_zero, List.set_cons_succ, i64_w, i32_w]
   rfl
  refine join_ (σ := Value × Addr) 8 #[Tt,Tt,Tt,Tt,Tt,Tt,Tt,Tt,Tt,Tt,Tt,Tt,Tt,Tt,Tt,Tt,Tt,Ff,Ff,Ff,Ff,Ff,Ff,Ff,Ff] (fun s_ => [(81, .int .i64 b4), (84, s_.1), (90, .int .i64 bE), (82, .int .u64 (IntKind.u64.wrap (b4))), (83, .int .u64 (IntKind.u64.wrap (1 + (IntKind.u64.wrap (b4)))))]) (fun s_ w' => (w'.cell? ⟨bh, 0, none⟩ = some (.int .u64 bb) ∧ w'.cell? ⟨bh, 1, none⟩ = some (.int .u64 bc) ∧ w'.cell? ⟨bh, 2, none⟩ = some (.slice bm ba.length bl) ∧ w'.cell? (bA.add ((bf).toNat * 3)) = some (.int .i64 ((rd_T75 l0 bf).f0)) ∧ w'.cell? ⟨(bA.add ((bf).toNat * 3)).block, (bA.add ((bf).toNat * 3)).off + 1, none⟩ = some (.int .i64 ((rd_T75 l0 bf).f1)) ∧ w'.cell? ⟨(bA.add ((bf).toNat * 3)).block, (bA.add ((bf).toNat * 3)).off + 2, none⟩ = some (.int .i64 ((rd_T75 l0 bf).f2)) ∧ w'.cell? (bA.add ((bf).toNat * 3)) = some (.int .i64 ((rd_T75 l0 bf).f0)) ∧ w'.cell? ⟨(bA.add ((bf).toNat * 3)).block, (bA.add ((bf).toNat * 3)).off + 1, none⟩ = some (.int .i64 ((rd_T75 l0 bf).f1)) ∧ w'.cell? ⟨(bA.add ((bf).toNat * 3)).block, (bA.add ((bf).toNat * 3)).off + 2, none⟩ = some (.int .i64 ((rd_T75 l0 bf).f2))) ∧ (Kd.R Kd.string 9 w' w.heap.size (fun k_ => (w.heap.size ≤ k_)) (.slice (some bL) bz.length b0) bz) ∧ (Kd.R (Kd.int .u8) 5 w' w.heap.size (fun k_ => (w.heap.size ≤ k_)) s_.1 bJ) ∧ (Kd.V k55 55 w' w.heap.size (fun k_ => (w.heap.size ≤ k_) ∧ some k_ ≠ (.slice (some bL) bz.length b0 : Value).ownBlock ∧ some k_ ≠ (s_.1 : Value).ownBlock ∧ k_ ≠ bk ∧ k_ ≠ bh ∧ k_ ≠ bd) (.slice bm ba.length bl) ba) ∧ (∃ c_, (s_.1 : Value) = .slice (some s_.2) bJ.length c_) ∧ (w'.heap[bk]? = some (.cells #[.int .u64 0, .int .u64 0, .slice none 0 0] 25 (0, 0))) ∧ (w'.heap[bh]? = some (.cells #[.int .u64 bb, .int .u64 bc, .slice bm ba.length bl] 25 (0, 0))) ∧ (w'.heap[bd]? = some (.cells #[.int .u64 bb, .int .u64 bc, .slice bm ba.length bl] 25 (0, 0))) ∧ (Below w.heap.size w w')) ?_ ?_
  rotate_left
  ·intro hCont
   refine two_ (i := 7) (j := 10) (Ni := some 81) (Nj := some 84) #[Tt,Tt,Tt,Tt,Tt,Tt,Tt,Tt,Ff,Ff,Ff,Tt,Tt,Tt,Tt,Tt,Ff,Ff,Ff,Ff,Ff,Ff,Ff,Ff,Ff] #[Tt,Tt,Tt,Tt,Tt,Tt,Tt,Ff,Ff,Ff,Tt,Tt,Tt,Tt,Tt,Tt,Ff,Ff,Ff,Ff,Ff,Ff,Ff,Ff,Ff] rfl rfl rfl rfl (two_of HT_.out (by kernel_rfl)) (by decide) (by decide) (fun K hK => ?_) (fun K hK => ?_)
   ·skip
    refine goes_ Tryd.func19 (by kernel_rfl) rfl #[.int .i64 ((rd_T75 l0 bf).f2), .int .i64 20] (by rfl) rfl rfl zx22_4 ?_
    with_reducible refine (postroomlaw11_pick.calls ((rd_T75 l0 bf).f2) 20 b4 _ j6.out).mono ?_
    rintro e w' ⟨rfl, ⟨nd, rfl⟩⟩
    refine ⟨_, rfl, ?_⟩
    refine hK.out _ _ ⟨(blk_cell be.out 0).trans rfl, (blk_cell be.out 1).trans rfl, (blk_cell be.out 2).trans rfl, ((HB.out.cell (World.block_lt_of_cell? w _ bw)).trans bw), ((HB.out.cell (World.block_lt_of_cell? w _ bu)).trans bu), ((HB.out.cell (World.block_lt_of_cell? w _ br)).trans br), ((HB.out.cell (World.block_lt_of_cell? w _ bq)).trans bq), ((HB.out.cell (World.block_lt_of_cell? w _ bp)).trans bp), ((HB.out.cell (World.block_lt_of_cell? w _ bo)).trans bo)⟩ (fun hHeld => ?_)
    clear hK K
    refine na_ 81 ?_
    refine pp_ 8 (some 82) HT_.out ?_
    refine pp_ 9 (some 83) HT_.out ?_
    refine two_ (i := 10) (j := 16) (Ni := some 84) (Nj := some 90) #[Tt,Tt,Tt,Tt,Tt,Tt,Tt,Tt,Tt,Tt,Tt,Tt,Tt,Tt,Tt,Tt,Ff,Ff,Ff,Ff,Ff,Ff,Ff,Ff,Ff] #[Tt,Tt,Tt,Tt,Tt,Tt,Tt,Tt,Tt,Tt,Ff,Tt,Tt,Tt,Tt,Tt,Tt,Ff,Ff,Ff,Ff,Ff,Ff,Ff,Ff] rfl rfl rfl rfl (two_of HT_.out (by kernel_rfl)) (by decide) (by decide) (fun K hK => ?_) (fun K hK => ?_)
    ·skip
     refine Kd.R_lit_step (Kd.int .u8) _ 5 ?hg (N := 84) ?hd (xs := ([97, 114] : List Int)) (inner := [.int .u8 97, .int .u8 114]) (ok := fun _ => True) (okp := fun _ => True) ?hr ?hp (fun _ hk => hk) trivial (Below.refl _ _) (Nat.le_refl _) (by simp) ?_; (case hd => rfl); (case hg => rfl); (case hr => first | (go_simp; done) | (go_simp; rfl)); (case hp => exact (Reps.one (show Kd.M (Kd.int .u8) _ _ _ 97 [.int .u8 97] from rfl) (Reps.one (show Kd.M (Kd.int .u8) _ _ _ 114 [.int .u8 114] from rfl) (Reps.none _ _))))
     intro dY gY bN hb hg_ hnew_
     clear hg_ hnew_
     (first | rw [← dh.out] at bN | (simp only [Int.reduceToNat] at bN; rw [← dh.out] at bN))
     replace bg := Aside0.mk (Kd.V_elder' zx22_15 (Kd.R_base bN) hb)
     replace bD := Aside0.mk (Kd.R_below zx22_5 hb)
     have b2 := Aside0.mk (Kd.R_lower (Kd.R_newM (M := fun k_ => (w.heap.size ≤ k_)) bN (below_size zx22_0) (fun k_ h_ => h_)) (below_size zx22_0))
     replace bn := Aside0.mk (blk_below (g := bk) (o := .cells #[.int .u64 0, .int .u64 0, .slice none 0 0] 25 (0, 0)) zx22_1 hb)
     replace be := Aside0.mk (blk_below (g := bh) (o := .cells #[.int .u64 bb, .int .u64 bc, .slice bm ba.length bl] 25 (0, 0)) zx22_2 hb)
     replace bj := Aside0.mk (blk_below (g := bd) (o := .cells #[.int .u64 bb, .int .u64 bc, .slice bm ba.length bl] 25 (0, 0)) zx22_3 hb)
     replace HB := Aside0.mk (below_step zx22_0 hb)
     clear hb bN
     obtain ⟨gn, dH, dG⟩ := Kd.R_slice b2.out
     subst dG
     obtain ⟨b5, dF, _⟩ := Kd.at_int (Kd.R_reads' b2.out).2.2 0 (by decide) (by rw [dh.out]; simp)
     cases dF
     refine hK.out _ _ ⟨(blk_cell be.out 0).trans rfl, (blk_cell be.out 1).trans rfl, (blk_cell be.out 2).trans rfl, ((HB.out.cell (World.block_lt_of_cell? w _ bw)).trans bw), ((HB.out.cell (World.block_lt_of_cell? w _ bu)).trans bu), ((HB.out.cell (World.block_lt_of_cell? w _ br)).trans br), ((HB.out.cell (World.block_lt_of_cell? w _ bq)).trans bq), ((HB.out.cell (World.block_lt_of_cell? w _ bp)).trans bp), ((HB.out.cell (World.block_lt_of_cell? w _ bo)).trans bo)⟩ (fun hHeld => ?_)
     clear hK K
     refine na_ 84 ?_
     refine one_ (i := 16) (N := some 90) #[Tt,Tt,Tt,Tt,Tt,Tt,Tt,Tt,Tt,Tt,Tt,Tt,Tt,Tt,Tt,Tt,Tt,Ff,Ff,Ff,Ff,Ff,Ff,Ff,Ff] rfl rfl (one_of HT_.out (by kernel_rfl)) (by decide) (fun K hK => ?_)
     refine goes_ Tryd.func19 (by kernel_rfl) rfl #[.int .i64 ((rd_T75 l0 bf).f2), .int .i64 2] (by rfl) rfl rfl zx22_4 ?_
     with_reducible refine (postroomlaw11_pick.calls ((rd_T75 l0 bf).f2) 2 bE _ gX.out).mono ?_
     rintro e w' ⟨rfl, ⟨nd, rfl⟩⟩
     refine ⟨_, rfl, ?_⟩
     refine hK.out _ _ ⟨(blk_cell be.out 0).trans rfl, (blk_cell be.out 1).trans rfl, (blk_cell be.out 2).trans rfl, ((HB.out.cell (World.block_lt_of_cell? w _ bw)).trans bw), ((HB.out.cell (World.block_lt_of_cell? w _ bu)).trans bu), ((HB.out.cell (World.block_lt_of_cell? w _ br)).trans br), ((HB.out.cell (World.block_lt_of_cell? w _ bq)).trans bq), ((HB.out.cell (World.block_lt_of_cell? w _ bp)).trans bp), ((HB.out.cell (World.block_lt_of_cell? w _ bo)).trans bo)⟩ (fun hHeld => ?_)
     clear hK K
     refine na_ 90 ?_
     exact norm_ (by simp only [putAll, Act.put, List.setIfInBounds_toArray, List.set_cons_zero, List.set_cons_succ]) (hCont (.slice (some b5) bJ.length dH, b5) _ ⟨hHeld, zx22_5, zx22_21, zx22_19, ⟨_, rfl⟩, zx22_1, zx22_2, zx22_3, zx22_0⟩)
    ·skip
     refine goes_ Tryd.func19 (by kernel_rfl) rfl #[.int .i64 ((rd_T75 l0 bf).f2), .int .i64 2] (by rfl) rfl rfl zx22_4 ?_
     with_reducible refine (postroomlaw11_pick.calls ((rd_T75 l0 bf).f2) 2 bE _ gX.out).mono ?_
     rintro e w' ⟨rfl, ⟨nd, rfl⟩⟩
     refine ⟨_, rfl, ?_⟩
     refine hK.out _ _ ⟨(blk_cell be.out 0).trans rfl, (blk_cell be.out 1).trans rfl, (blk_cell be.out 2).trans rfl, ((HB.out.cell (World.block_lt_of_cell? w _ bw)).trans bw), ((HB.out.cell (World.block_lt_of_cell? w _ bu)).trans bu), ((HB.out.cell (World.block_lt_of_cell? w _ br)).trans br), ((HB.out.cell (World.block_lt_of_cell? w _ bq)).trans bq), ((HB.out.cell (World.block_lt_of_cell? w _ bp)).trans bp), ((HB.out.cell (World.block_lt_of_cell? w _ bo)).trans bo)⟩ (fun hHeld => ?_)
     clear hK K
     refine na_ 90 ?_
     refine one_ (i := 10) (N := some 84) #[Tt,Tt,Tt,Tt,Tt,Tt,Tt,Tt,Tt,Tt,Tt,Tt,Tt,Tt,Tt,Tt,Tt,Ff,Ff,Ff,Ff,Ff,Ff,Ff,Ff] rfl rfl (one_of HT_.out (by kernel_rfl)) (by decide) (fun K hK => ?_)
     refine Kd.R_lit_step (Kd.int .u8) _ 5 ?hg (N := 84) ?hd (xs := ([97, 114] : List Int)) (inner := [.int .u8 97, .int .u8 114]) (ok := fun _ => True) (okp := fun _ => True) ?hr ?hp (fun _ hk => hk) trivial (Below.refl _ _) (Nat.le_refl _) (by simp) ?_; (case hd => rfl); (case hg => rfl); (case hr => first | (go_simp; done) | (go_simp; rfl)); (case hp => exact (Reps.one (show Kd.M (Kd.int .u8) _ _ _ 97 [.int .u8 97] from rfl) (Reps.one (show Kd.M (Kd.int .u8) _ _ _ 114 [.int .u8 114] from rfl) (Reps.none _ _))))
     intro dY gY bN hb hg_ hnew_
     clear hg_ hnew_
     (first | rw [← dh.out] at bN | (simp only [Int.reduceToNat] at bN; rw [← dh.out] at bN))
     replace bg := Aside0.mk (Kd.V_elder' zx22_15 (Kd.R_base bN) hb)
     replace bD := Aside0.mk (Kd.R_below zx22_5 hb)
     have b2 := Aside0.mk (Kd.R_lower (Kd.R_newM (M := fun k_ => (w.heap.size ≤ k_)) bN (below_size zx22_0) (fun k_ h_ => h_)) (below_size zx22_0))
     replace bn := Aside0.mk (blk_below (g := bk) (o := .cells #[.int .u64 0, .int .u64 0, .slice none 0 0] 25 (0, 0)) zx22_1 hb)
     replace be := Aside0.mk (blk_below (g := bh) (o := .cells #[.int .u64 bb, .int .u64 bc, .slice bm ba.length bl] 25 (0, 0)) zx22_2 hb)
     replace bj := Aside0.mk (blk_below (g := bd) (o := .cells #[.int .u64 bb, .int .u64 bc, .slice bm ba.length bl] 25 (0, 0)) zx22_3 hb)
     replace HB := Aside0.mk (below_step zx22_0 hb)
     clear hb bN
     obtain ⟨gn, dH, dG⟩ := Kd.R_slice b2.out
     subst dG
     obtain ⟨b5, dF, _⟩ := Kd.at_int (Kd.R_reads' b2.out).2.2 0 (by decide) (by rw [dh.out]; simp)
     cases dF
     refine hK.out _ _ ⟨(blk_cell be.out 0).trans rfl, (blk_cell be.out 1).trans rfl, (blk_cell be.out 2).trans rfl, ((HB.out.cell (World.block_lt_of_cell? w _ bw)).trans bw), ((HB.out.cell (World.block_lt_of_cell? w _ bu)).trans bu), ((HB.out.cell (World.block_lt_of_cell? w _ br)).trans br), ((HB.out.cell (World.block_lt_of_cell? w _ bq)).trans bq), ((HB.out.cell (World.block_lt_of_cell? w _ bp)).trans bp), ((HB.out.cell (World.block_lt_of_cell? w _ bo)).trans bo)⟩ (fun hHeld => ?_)
     clear hK K
     refine na_ 84 ?_
     exact norm_ (by simp only [putAll, Act.put, List.setIfInBounds_toArray, List.set_cons_zero, List.set_cons_succ]) (hCont (.slice (some b5) bJ.length dH, b5) _ ⟨hHeld, zx22_5, zx22_21, zx22_19, ⟨_, rfl⟩, zx22_1, zx22_2, zx22_3, zx22_0⟩)
   ·skip
    refine Kd.R_lit_step (Kd.int .u8) _ 5 ?hg (N := 84) ?hd (xs := ([97, 114] : List Int)) (inner := [.int .u8 97, .int .u8 114]) (ok := fun _ => True) (okp := fun _ => True) ?hr ?hp (fun _ hk => hk) trivial (Below.refl _ _) (Nat.le_refl _) (by simp) ?_; (case hd => rfl); (case hg => rfl); (case hr => first | (go_simp; done) | (go_simp; rfl)); (case hp => exact (Reps.one (show Kd.M (Kd.int .u8) _ _ _ 97 [.int .u8 97] from rfl) (Reps.one (show Kd.M (Kd.int .u8) _ _ _ 114 [.int .u8 114] from rfl) (Reps.none _ _))))
    intro dY gY bN hb hg_ hnew_
    clear hg_ hnew_
    (first | rw [← dh.out] at bN | (simp only [Int.reduceToNat] at bN; rw [← dh.out] at bN))
    replace bg := Aside0.mk (Kd.V_elder' zx22_15 (Kd.R_base bN) hb)
    replace bD := Aside0.mk (Kd.R_below zx22_5 hb)
    have b2 := Aside0.mk (Kd.R_lower (Kd.R_newM (M := fun k_ => (w.heap.size ≤ k_)) bN (below_size zx22_0) (fun k_ h_ => h_)) (below_size zx22_0))
    replace bn := Aside0.mk (blk_below (g := bk) (o := .cells #[.int .u64 0, .int .u64 0, .slice none 0 0] 25 (0, 0)) zx22_1 hb)
    replace be := Aside0.mk (blk_below (g := bh) (o := .cells #[.int .u64 bb, .int .u64 bc, .slice bm ba.length bl] 25 (0, 0)) zx22_2 hb)
    replace bj := Aside0.mk (blk_below (g := bd) (o := .cells #[.int .u64 bb, .int .u64 bc, .slice bm ba.length bl] 25 (0, 0)) zx22_3 hb)
    replace HB := Aside0.mk (below_step zx22_0 hb)
    clear hb bN
    obtain ⟨gn, dH, dG⟩ := Kd.R_slice b2.out
    subst dG
    obtain ⟨b5, dF, _⟩ := Kd.at_int (Kd.R_reads' b2.out).2.2 0 (by decide) (by rw [dh.out]; simp)
    cases dF
    refine hK.out _ _ ⟨(blk_cell be.out 0).trans rfl, (blk_cell be.out 1).trans rfl, (blk_cell be.out 2).trans rfl, ((HB.out.cell (World.block_lt_of_cell? w _ bw)).trans bw), ((HB.out.cell (World.block_lt_of_cell? w _ bu)).trans bu), ((HB.out.cell (World.block_lt_of_cell? w _ br)).trans br), ((HB.out.cell (World.block_lt_of_cell? w _ bq)).trans bq), ((HB.out.cell (World.block_lt_of_cell? w _ bp)).trans bp), ((HB.out.cell (World.block_lt_of_cell? w _ bo)).trans bo)⟩ (fun hHeld => ?_)
    clear hK K
    refine na_ 84 ?_
    refine one_ (i := 7) (N := some 81) #[Tt,Tt,Tt,Tt,Tt,Tt,Tt,Tt,Ff,Ff,Tt,Tt,Tt,Tt,Tt,Tt,Ff,Ff,Ff,Ff,Ff,Ff,Ff,Ff,Ff] rfl rfl (one_of HT_.out (by kernel_rfl)) (by decide) (fun K hK => ?_)
    refine goes_ Tryd.func19 (by kernel_rfl) rfl #[.int .i64 ((rd_T75 l0 bf).f2), .int .i64 20] (by rfl) rfl rfl zx22_4 ?_
    with_reducible refine (postroomlaw11_pick.calls ((rd_T75 l0 bf).f2) 20 b4 _ j6.out).mono ?_
    rintro e w' ⟨rfl, ⟨nd, rfl⟩⟩
    refine ⟨_, rfl, ?_⟩
    refine hK.out _ _ ⟨(blk_cell be.out 0).trans rfl, (blk_cell be.out 1).trans rfl, (blk_cell be.out 2).trans rfl, ((HB.out.cell (World.block_lt_of_cell? w _ bw)).trans bw), ((HB.out.cell (World.block_lt_of_cell? w _ bu)).trans bu), ((HB.out.cell (World.block_lt_of_cell? w _ br)).trans br), ((HB.out.cell (World.block_lt_of_cell? w _ bq)).trans bq), ((HB.out.cell (World.block_lt_of_cell? w _ bp)).trans bp), ((HB.out.cell (World.block_lt_of_cell? w _ bo)).trans bo)⟩ (fun hHeld => ?_)
    clear hK K
    refine na_ 81 ?_
    refine pp_ 8 (some 82) HT_.out ?_
    refine pp_ 9 (some 83) HT_.out ?_
    refine one_ (i := 16) (N := some 90) #[Tt,Tt,Tt,Tt,Tt,Tt,Tt,Tt,Tt,Tt,Tt,Tt,Tt,Tt,Tt,Tt,Tt,Ff,Ff,Ff,Ff,Ff,Ff,Ff,Ff] rfl rfl (one_of HT_.out (by kernel_rfl)) (by decide) (fun K hK => ?_)
    refine goes_ Tryd.func19 (by kernel_rfl) rfl #[.int .i64 ((rd_T75 l0 bf).f2), .int .i64 2] (by rfl) rfl rfl zx22_4 ?_
    with_reducible refine (postroomlaw11_pick.calls ((rd_T75 l0 bf).f2) 2 bE _ gX.out).mono ?_
    rintro e w' ⟨rfl, ⟨nd, rfl⟩⟩
    refine ⟨_, rfl, ?_⟩
    refine hK.out _ _ ⟨(blk_cell be.out 0).trans rfl, (blk_cell be.out 1).trans rfl, (blk_cell be.out 2).trans rfl, ((HB.out.cell (World.block_lt_of_cell? w _ bw)).trans bw), ((HB.out.cell (World.block_lt_of_cell? w _ bu)).trans bu), ((HB.out.cell (World.block_lt_of_cell? w _ br)).trans br), ((HB.out.cell (World.block_lt_of_cell? w _ bq)).trans bq), ((HB.out.cell (World.block_lt_of_cell? w _ bp)).trans bp), ((HB.out.cell (World.block_lt_of_cell? w _ bo)).trans bo)⟩ (fun hHeld => ?_)
    clear hK K
    refine na_ 90 ?_
    exact norm_ (by simp only [putAll, Act.put, List.setIfInBounds_toArray, List.set_cons_zero, List.set_cons_succ]) (hCont (.slice (some b5) bJ.length dH, b5) _ ⟨hHeld, zx22_5, zx22_21, zx22_19, ⟨_, rfl⟩, zx22_1, zx22_2, zx22_3, zx22_0⟩)
  rintro ⟨dY, adz_v307⟩ b6 ⟨hS_, h0_, h1_, h2_, h3_, h4_, h5_, h6_, h7_⟩
  have n0_ : Aside0 (Kd.R Kd.string 9 b6 w.heap.size (fun k_ => (w.heap.size ≤ k_)) (.slice (some bL) bz.length b0) bz) := ⟨h0_⟩
  have n1_ : Aside0 (Kd.R (Kd.int .u8) 5 b6 w.heap.size (fun k_ => (w.heap.size ≤ k_)) dY bJ) := ⟨h1_⟩
  have n2_ : Aside0 (Kd.V k55 55 b6 w.heap.size (fun k_ => (w.heap.size ≤ k_) ∧ some k_ ≠ (.slice (some bL) bz.length b0 : Value).ownBlock ∧ some k_ ≠ (dY : Value).ownBlock ∧ k_ ≠ bk ∧ k_ ≠ bh ∧ k_ ≠ bd) (.slice bm ba.length bl) ba) := ⟨h2_⟩
  have n3_ : Aside0 (∃ c_, (dY : Value) = .slice (some adz_v307) bJ.length c_) := ⟨h3_⟩
  have n4_ : Aside0 (b6.heap[bk]? = some (.cells #[.int .u64 0, .int .u64 0, .slice none 0 0] 25 (0, 0))) := ⟨h4_⟩
  have n5_ : Aside0 (b6.heap[bh]? = some (.cells #[.int .u64 bb, .int .u64 bc, .slice bm ba.length bl] 25 (0, 0))) := ⟨h5_⟩
  have n6_ : Aside0 (b6.heap[bd]? = some (.cells #[.int .u64 bb, .int .u64 bc, .slice bm ba.length bl] 25 (0, 0))) := ⟨h6_⟩
  have n7_ : Aside0 (Below w.heap.size w b6) := ⟨h7_⟩
  clear bg
  (try clear bD)
  clear bn
  clear be
  clear bj
  clear HB
  clear h0_ h1_ h2_ h3_ h4_ h5_ h6_ h7_
  have bD := n0_
  have b2 := n1_
  have bg := n2_
  have HA_HO308 := n3_
  have bn := n4_
  have be := n5_
  have bj := n6_
  have HB := n7_
  clear n0_ n1_ n2_ n3_ n4_ n5_ n6_ n7_
  have hHeld : b6.cell? ⟨bh, 0, none⟩ = some (.int .u64 bb) ∧ b6.cell? ⟨bh, 1, none⟩ = some (.int .u64 bc) ∧ b6.cell? ⟨bh, 2, none⟩ = some (.slice bm ba.length bl) ∧ b6.cell? (bA.add ((bf).toNat * 3)) = some (.int .i64 ((rd_T75 l0 bf).f0)) ∧ b6.cell? ⟨(bA.add ((bf).toNat * 3)).block, (bA.add ((bf).toNat * 3)).off + 1, none⟩ = some (.int .i64 ((rd_T75 l0 bf).f1)) ∧ b6.cell? ⟨(bA.add ((bf).toNat * 3)).block, (bA.add ((bf).toNat * 3)).off + 2, none⟩ = some (.int .i64 ((rd_T75 l0 bf).f2)) ∧ b6.cell? (bA.add ((bf).toNat * 3)) = some (.int .i64 ((rd_T75 l0 bf).f0)) ∧ b6.cell? ⟨(bA.add ((bf).toNat * 3)).block, (bA.add ((bf).toNat * 3)).off + 1, none⟩ = some (.int .i64 ((rd_T75 l0 bf).f1)) ∧ b6.cell? ⟨(bA.add ((bf).toNat * 3)).block, (bA.add ((bf).toNat * 3)).off + 2, none⟩ = some (.int .i64 ((rd_T75 l0 bf).f2)) := hS_
  obtain ⟨gg, jG⟩ := HA_HO308.out
  clear HA_HO308
  subst jG
  refine nb_ ?_
  refine pp_ 17 (some 91) HT_.out ?_
  refine one_ (i := 18) (N := some 92) #[Tt,Tt,Tt,Tt,Tt,Tt,Tt,Tt,Tt,Tt,Tt,Tt,Tt,Tt,Tt,Tt,Tt,Tt,Tt,Ff,Ff,Ff,Ff,Ff,Ff] rfl rfl (one_of HT_.out (by kernel_rfl)) (by decide) (fun K hK => ?_)
  (have m8 : 0 ≤ (bE : Int) := of_decide_eq_true zx22_18; have m7 : bE < (bJ.length : Int) := of_decide_eq_true zx22_18; obtain ⟨jU, op, d8⟩ := Kd.at_int (Kd.R_reads' b2.out).2.2 bE m8 m7; obtain rfl : adz_v307 = jU := (by injection op))
  refine value_ (w1 := ?_) (v := ?_) (by rfl) rfl ?_ ?_
  rotate_left 2
  ·go_simp
   constructor
   ·rfl
   ·rfl
  clear d8
  refine hK.out _ _ ⟨(blk_cell be.out 0).trans rfl, (blk_cell be.out 1).trans rfl, (blk_cell be.out 2).trans rfl, ((HB.out.cell (World.block_lt_of_cell? w _ bw)).trans bw), ((HB.out.cell (World.block_lt_of_cell? w _ bu)).trans bu), ((HB.out.cell (World.block_lt_of_cell? w _ br)).trans br), ((HB.out.cell (World.block_lt_of_cell? w _ bq)).trans bq), ((HB.out.cell (World.block_lt_of_cell? w _ bp)).trans bp), ((HB.out.cell (World.block_lt_of_cell? w _ bo)).trans bo)⟩ (fun hHeld => ?_)
  clear hK K
  refine na_ 92 ?_
  refine one_ (i := 19) (N := some 93) #[Tt,Tt,Tt,Tt,Tt,Tt,Tt,Tt,Tt,Tt,Tt,Tt,Tt,Tt,Tt,Tt,Tt,Tt,Tt,Tt,Ff,Ff,Ff,Ff,Ff] rfl rfl (one_of HT_.out (by kernel_rfl)) (by decide) (fun K hK => ?_)
  refine goes_ Tryd.func20 (by kernel_rfl) rfl #[.agg #[.int .u64 bb, .int .u64 bc, .slice bm ba.length bl], .string (rdOf ByteArray.empty bz bG), .int .u64 (IntKind.u64.wrap (1 + (IntKind.u64.wrap (b4)))), .int .u8 (rd bJ bE)] (by rfl) rfl rfl zx22_4 ?_
  with_reducible refine (ledger_Done.calls k1 bb bc (fun k_ => ((w.heap.size ≤ k_) ∧ (some k_ ≠ (.slice (some bL) bz.length b0 : Value).ownBlock ∧ (some k_ ≠ (.slice (some adz_v307) bJ.length gg : Value).ownBlock ∧ (k_ ≠ bk ∧ (k_ ≠ bh ∧ k_ ≠ bd)))))) _ _ ba (rdOf ByteArray.empty bz bG) (IntKind.u64.wrap (1 + (IntKind.u64.wrap (b4)))) (rd bJ bE) dw dN dM dL _ ?side1 oD.out).mono ?_
  (case side1 => exact bg.out)
  rintro e gu ⟨o2, rfl, ho0, hb⟩
  refine ⟨_, rfl, ?_⟩
  have n0_ := Aside0.mk (Kd.V_below zx22_15 hb)
  have n1_ := Aside0.mk (Kd.R_below zx22_5 hb)
  have n3_ := Aside0.mk (Kd.V_lower (Kd.V_mono (ok' := fun k_ => (w.heap.size ≤ k_) ∧ some k_ ≠ (.slice (some bL) bz.length b0 : Value).ownBlock ∧ some k_ ≠ (.slice (some adz_v307) bJ.length gg : Value).ownBlock ∧ k_ ≠ bk ∧ k_ ≠ bh ∧ k_ ≠ bd) ho0 (fun k_ hk_ => ⟨Or.elim hk_ (fun hs_ => hs_.1) (fun hn_ => (Nat.le_trans (below_size zx22_0) hn_)), Or.elim hk_ (fun hs_ => hs_.2.1) (fun hn_ => (Kd.fresh' (Kd.R_lt zx22_5) k_ hn_)), Or.elim hk_ (fun hs_ => hs_.2.2.1) (fun hn_ => (Kd.fresh' (Kd.R_lt (by (with_reducible repeat (first | apply Kd.R_alloc | apply Kd.R_drewN | apply Kd.R_drew)); exact b2.out)) k_ hn_)), Or.elim hk_ (fun hs_ => hs_.2.2.2.1) (fun hn_ => (Kd.freshB (g := bk) (o := .cells #[.int .u64 0, .int .u64 0, .slice none 0 0] 25 (0, 0)) zx22_1 k_ hn_)), Or.elim hk_ (fun hs_ => hs_.2.2.2.2.1) (fun hn_ => (Kd.freshB (g := bh) (o := .cells #[.int .u64 bb, .int .u64 bc, .slice bm ba.length bl] 25 (0, 0)) zx22_2 k_ hn_)), Or.elim hk_ (fun hs_ => hs_.2.2.2.2.2) (fun hn_ => (Kd.freshB (g := bd) (o := .cells #[.int .u64 bb, .int .u64 bc, .slice bm ba.length bl] 25 (0, 0)) zx22_3 k_ hn_))⟩)) (below_size zx22_0))
  have n4_ := Aside0.mk (blk_below (g := bk) (o := .cells #[.int .u64 0, .int .u64 0, .slice none 0 0] 25 (0, 0)) zx22_1 hb)
  have n5_ := Aside0.mk (blk_below (g := bh) (o := .cells #[.int .u64 bb, .int .u64 bc, .slice bm ba.length bl] 25 (0, 0)) zx22_2 hb)
  have n6_ := Aside0.mk (blk_below (g := bd) (o := .cells #[.int .u64 bb, .int .u64 bc, .slice bm ba.length bl] 25 (0, 0)) zx22_3 hb)
  have n7_ := Aside0.mk (below_step zx22_0 hb)
  clear bg
  (try clear bD)
  (try clear b2)
  clear bn
  clear be
  clear bj
  clear HB
  have bg := n0_
  have bD := n1_
  have gj := n3_
  have bn := n4_
  have be := n5_
  have bj := n6_
  have HB := n7_
  clear n0_ n1_ n3_ n4_ n5_ n6_ n7_
  (try clear hb)
  (try clear hb2)
  (try clear hk)
  (try clear hi)
  (try clear ho0)
  obtain ⟨dX, dS, gc⟩ := Kd.V_slice gj.out
  (first | subst gc | (injection gc with f1_ f2_ f3_; have f4_ := f1_.symm; have f5_ := f3_.symm; clear f1_ f2_ f3_; subst f4_; subst f5_))
  refine hK.out _ _ ⟨(blk_cell be.out 0).trans rfl, (blk_cell be.out 1).trans rfl, (blk_cell be.out 2).trans rfl, ((HB.out.cell (World.block_lt_of_cell? w _ bw)).trans bw), ((HB.out.cell (World.block_lt_of_cell? w _ bu)).trans bu), ((HB.out.cell (World.block_lt_of_cell? w _ br)).trans br), ((HB.out.cell (World.block_lt_of_cell? w _ bq)).trans bq), ((HB.out.cell (World.block_lt_of_cell? w _ bp)).trans bp), ((HB.out.cell (World.block_lt_of_cell? w _ bo)).trans bo)⟩ (fun hHeld => ?_)
  clear hK K
  refine na_ 93 ?_
  refine pp_ 20 (some 73) HT_.out ?_
  refine pp_ 21 (some 94) HT_.out ?_
  refine pp_ 22 (some 95) HT_.out ?_
  refine one_ (i := 23) (N := none) #[Tt,Tt,Tt,Tt,Tt,Tt,Tt,Tt,Tt,Tt,Tt,Tt,Tt,Tt,Tt,Tt,Tt,Tt,Tt,Tt,Tt,Tt,Tt,Tt,Ff] rfl rfl (one_of HT_.out (by kernel_rfl)) (by decide) (fun K hK => ?_)
  have oL : gu.cell? ⟨bd, 0, none⟩ = some (.int .u64 bb) := (blk_cell bj.out 0).trans rfl
  have oh := blk_frozen bj.out 0
  have hu := bx.out
  have ht := bi.out
  have hH := bU.out
  have hG := bS.out
  have oK : gu.cell? ⟨bd, 1, none⟩ = some (.int .u64 bc) := (blk_cell bj.out 1).trans rfl
  have og := blk_frozen bj.out 1
  have hs := bx.out
  have hq := bi.out
  have hF := bU.out
  have hE := bS.out
  have oJ : gu.cell? ⟨bd, 2, none⟩ = some (.slice bm ba.length bl) := (blk_cell bj.out 2).trans rfl
  have oe := blk_frozen bj.out 2
  have hm := bx.out
  have hl := bi.out
  have hD := bU.out
  have hC := bS.out
  refine skip_ (w1 := ?_) (by rfl) rfl ?_ ?_
  rotate_left
  ·go_simp
   rfl
  refine hK.out _ _ ⟨((cell_far (p := ⟨bd, _, none⟩) bi.out _).trans (((cell_far (p := ⟨bd, _, none⟩) bi.out _).trans (((cell_far (p := ⟨bd, _, none⟩) bi.out _).trans (hHeld.1)))))), ((cell_far (p := ⟨bd, _, none⟩) bi.out _).trans (((cell_far (p := ⟨bd, _, none⟩) bi.out _).trans (((cell_far (p := ⟨bd, _, none⟩) bi.out _).trans (hHeld.2.1)))))), ((cell_far (p := ⟨bd, _, none⟩) bi.out _).trans (((cell_far (p := ⟨bd, _, none⟩) bi.out _).trans (((cell_far (p := ⟨bd, _, none⟩) bi.out _).trans (hHeld.2.2.1)))))), ((cell_far (p := ⟨bd, _, none⟩) zx22_6 _).trans (((cell_far (p := ⟨bd, _, none⟩) zx22_6 _).trans (((cell_far (p := ⟨bd, _, none⟩) zx22_6 _).trans (hHeld.2.2.2.1)))))), ((cell_far (p := ⟨bd, _, none⟩) zx22_7 _).trans (((cell_far (p := ⟨bd, _, none⟩) zx22_7 _).trans (((cell_far (p := ⟨bd, _, none⟩) zx22_7 _).trans (hHeld.2.2.2.2.1)))))), ((cell_far (p := ⟨bd, _, none⟩) zx22_8 _).trans (((cell_far (p := ⟨bd, _, none⟩) zx22_8 _).trans (((cell_far (p := ⟨bd, _, none⟩) zx22_8 _).trans (hHeld.2.2.2.2.2.1)))))), ((cell_far (p := ⟨bd, _, none⟩) zx22_9 _).trans (((cell_far (p := ⟨bd, _, none⟩) zx22_9 _).trans (((cell_far (p := ⟨bd, _, none⟩) zx22_9 _).trans (hHeld.2.2.2.2.2.2.1)))))), ((cell_far (p := ⟨bd, _, none⟩) zx22_10 _).trans (((cell_far (p := ⟨bd, _, none⟩) zx22_10 _).trans (((cell_far (p := ⟨bd, _, none⟩) zx22_10 _).trans (hHeld.2.2.2.2.2.2.2.1)))))), ((cell_far (p := ⟨bd, _, none⟩) zx22_11 _).trans (((cell_far (p := ⟨bd, _, none⟩) zx22_11 _).trans (((cell_far (p := ⟨bd, _, none⟩) zx22_11 _).trans (hHeld.2.2.2.2.2.2.2.2))))))⟩ (fun hHeld => ?_)
  clear hK K
  refine pp_ 24 (some 7) HT_.out ?_
  refine done_ (done_of HT_.out (by kernel_rfl)) ?_
  by_cases dQ : dL = 0
  case neg =>
   have H := HP_.out
   clear HP_
   rw [if_neg dQ] at H
   have gT : (dL == 0) = false := beq_eq_false_iff_ne.mpr dQ
   have gS : (dL != 0) = true := bne_iff_ne.mpr dQ
   have H' := Aside0.mk H
   clear H
   try go_wp2
   go_roundg k1
   case measure => have := HK1.out; omega
   case rel => exact ⟨(wrap64 (bf + 1)), (bb), (bc), (ba), (.slice bm ba.length bl), zx22_20, H', ⟨by have := HK1.out; omega⟩, ⟨by (with_reducible repeat (first | apply Kd.V_alloc | apply Kd.V_drewN | apply Kd.V_drew)); exact Kd.V_mono (Kd.V_far (p := ⟨bd, 2, none⟩) (Kd.V_far (p := ⟨bd, 1, none⟩) (Kd.V_far (p := ⟨bd, 0, none⟩) (Kd.V_mono bg.out (fun k_ hk => (⟨hk, hk.2.2.2.2.2⟩ : _ ∧ k_ ≠ bd))) (fun _ hk => hk.2) (.int .u64 dw)) (fun _ hk => hk.2) (.int .u64 dN)) (fun _ hk => hk.2) (.slice dX dM.length dS)) (fun _ hk => ⟨hk.1.1, ⟨hk.1.2.2.2.1, hk.1.2.2.2.2.1⟩⟩)⟩, ⟨by (iterate 3 ((with_reducible repeat (first | refine blk_drewN ?_ _ | refine blk_drew ?_ | refine blk_alloc ?_ _)); refine blk_far ?_ bx.out _)); (with_reducible repeat (first | refine blk_drewN ?_ _ | refine blk_drew ?_ | refine blk_alloc ?_ _)); exact bn.out⟩, ⟨by (iterate 3 ((with_reducible repeat (first | refine blk_drewN ?_ _ | refine blk_drew ?_ | refine blk_alloc ?_ _)); refine blk_far ?_ bi.out _)); (with_reducible repeat (first | refine blk_drewN ?_ _ | refine blk_drew ?_ | refine blk_alloc ?_ _)); exact be.out⟩, ⟨by repeat (first | (with_reducible first | exact HB.out | apply below_alloc | apply pw_below_drewN | apply below_drew1 | refine below_set ?_ b1.out | refine below_set ?_ b3.out | refine below_set ?_ b7.out) | exact HB.out)⟩⟩
  have H := HP_.out
  clear HP_
  rw [if_pos dQ] at H
  have gT : (dL == 0) = true := beq_iff_eq.mpr dQ
  have gS : (dL != 0) = false := bne_eq_false_iff_eq.mpr dQ
  clear dQ
  have H' := Aside0.mk H
  clear H
  obtain ⟨jy, jx, jw, ja, hZ, hY⟩ := cx22_bc3 bj.out
  obtain ⟨jv, ju, jt, hX, hW, hV⟩ := cx22_bc3 be.out
  try go_wp2
  go_roundg k1
  case measure => have := HK1.out; omega
  case rel => exact ⟨(wrap64 (bf + 1)), (dw), (dN), (dM), (.slice dX dM.length dS), zx22_20, H', ⟨by have := HK1.out; omega⟩, ⟨by (with_reducible repeat (first | apply Kd.V_alloc | apply Kd.V_drewN | apply Kd.V_drew)); exact Kd.V_mono (Kd.V_far (p := ⟨bh, 2, none⟩) (Kd.V_far (p := ⟨bh, 1, none⟩) (Kd.V_far (p := ⟨bh, 0, none⟩) (Kd.V_far (p := ⟨bd, 2, none⟩) (Kd.V_far (p := ⟨bd, 1, none⟩) (Kd.V_far (p := ⟨bd, 0, none⟩) (Kd.V_mono (Kd.V_mono gj.out (fun k_ hk => (⟨hk, hk.2.2.2.2.2⟩ : _ ∧ k_ ≠ bd))) (fun k_ hk => (⟨hk, hk.1.2.2.2.2.1⟩ : _ ∧ k_ ≠ bh))) (fun _ hk => hk.1.2) (.int .u64 dw)) (fun _ hk => hk.1.2) (.int .u64 dN)) (fun _ hk => hk.1.2) (.slice dX dM.length dS)) (fun _ hk => hk.2) (.int .u64 dw)) (fun _ hk => hk.2) (.int .u64 dN)) (fun _ hk => hk.2) (.slice dX dM.length dS)) (fun _ hk => ⟨hk.1.1.1, ⟨hk.1.1.2.2.2.1, hk.1.1.2.2.2.2.1⟩⟩)⟩, ⟨by (iterate 3 ((with_reducible repeat (first | refine blk_drewN ?_ _ | refine blk_drew ?_ | refine blk_alloc ?_ _)); refine blk_far ?_ bK.out _)); (iterate 3 ((with_reducible repeat (first | refine blk_drewN ?_ _ | refine blk_drew ?_ | refine blk_alloc ?_ _)); refine blk_far ?_ bx.out _)); (with_reducible repeat (first | refine blk_drewN ?_ _ | refine blk_drew ?_ | refine blk_alloc ?_ _)); exact bn.out⟩, ⟨by (with_reducible repeat (first | refine blk_drewN ?_ _ | refine blk_drew ?_ | refine blk_alloc ?_ _)); refine blk_put (cs := #[.int .u64 dw, .int .u64 dN, .slice bm ba.length bl]) ?_ 2 _ rfl; (with_reducible repeat (first | refine blk_drewN ?_ _ | refine blk_drew ?_ | refine blk_alloc ?_ _)); refine blk_put (cs := #[.int .u64 dw, .int .u64 bc, .slice bm ba.length bl]) ?_ 1 _ rfl; (with_reducible repeat (first | refine blk_drewN ?_ _ | refine blk_drew ?_ | refine blk_alloc ?_ _)); refine blk_put (cs := #[.int .u64 bb, .int .u64 bc, .slice bm ba.length bl]) ?_ 0 _ rfl; (iterate 3 ((with_reducible repeat (first | refine blk_drewN ?_ _ | refine blk_drew ?_ | refine blk_alloc ?_ _)); refine blk_far ?_ bi.out _)); (with_reducible repeat (first | refine blk_drewN ?_ _ | refine blk_drew ?_ | refine blk_alloc ?_ _)); exact be.out⟩, ⟨by repeat (first | (with_reducible first | exact HB.out | apply below_alloc | apply pw_below_drewN | apply below_drew1 | refine below_set ?_ b1.out | refine below_set ?_ b3.out | refine below_set ?_ b7.out) | exact HB.out)⟩⟩
end Go.Proofs.YtmbigoeldobaiaaDoor.XMrk
