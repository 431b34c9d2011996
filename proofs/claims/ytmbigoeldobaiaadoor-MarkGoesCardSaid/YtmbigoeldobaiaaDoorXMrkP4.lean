/- Texts of this seat, in one. Conditions: those that each theorem names. -/
import Derived.Test.YtmbigoeldobaiaaDoorXMrkP1
import Derived.Test.YtmbigoeldobaiaaDoorXMrkP3
import Derived.Test.YtmbigoeldobaiaaDoorGNumbers
import Derived.Test.YtmbigoeldobaiaaDoorXMrkP2
section
/- What the functions of the translation answer, each as a plain Lean function, and that the code comes to it; for a law: its row. Conditions: none but those that each theorem names. Written by a program of this session (wip/xp). -/
namespace Go.Proofs.YtmbigoeldobaiaaDoor.XMrk
open Go.RowKit Go.Proofs.YtmbigoeldobaiaaDoorW.PrintWords Go.Proofs.YtmbigoeldobaiaaDoorW.PrintLast Go.Proofs.YtmbigoeldobaiaaDoorW.PrintMore
attribute [local go_sem] max2_int min2_int max_two min_two max_three min_three max_four min_four   -- for this text's walks alone
theorem cx7_bc7 {w : World} {g : Nat} {t : TypeId} {x0 x1 x2 x3 x4 x5 x6 : Value} (h : w.heap[g]? = some (.cells #[x0, x1, x2, x3, x4, x5, x6] t (0, 0))) : w.cell? ⟨g, 0, none⟩ = some x0 ∧ w.cell? ⟨g, 1, none⟩ = some x1 ∧ w.cell? ⟨g, 2, none⟩ = some x2 ∧ w.cell? ⟨g, 3, none⟩ = some x3 ∧ w.cell? ⟨g, 4, none⟩ = some x4 ∧ w.cell? ⟨g, 5, none⟩ = some x5 ∧ w.cell? ⟨g, 6, none⟩ = some x6 ∧ w.frozen? ⟨g, 0, none⟩ = false ∧ w.frozen? ⟨g, 1, none⟩ = false ∧ w.frozen? ⟨g, 2, none⟩ = false ∧ w.frozen? ⟨g, 3, none⟩ = false ∧ w.frozen? ⟨g, 4, none⟩ = false ∧ w.frozen? ⟨g, 5, none⟩ = false ∧ w.frozen? ⟨g, 6, none⟩ = false :=
 ⟨(blk_cell h 0).trans rfl, (blk_cell h 1).trans rfl, (blk_cell h 2).trans rfl, (blk_cell h 3).trans rfl, (blk_cell h 4).trans rfl, (blk_cell h 5).trans rfl, (blk_cell h 6).trans rfl, blk_frozen h 0, blk_frozen h 1, blk_frozen h 2, blk_frozen h 3, blk_frozen h 4, blk_frozen h 5, blk_frozen h 6⟩
theorem zx7_6 {p : Prop} (h : p := by first | rfl | (simp; done) | (simp [*]; done)) : p := h
theorem zx7_1 {p : Prop} (h : p := by (with_reducible repeat (first | refine blk_drewN ?_ _ | refine blk_drew ?_ | refine blk_alloc ?_ _)); exact be.out) : p := h
theorem zx7_3 {p : Prop} (h : p := by (with_reducible repeat (first | refine blk_drewN ?_ _ | refine blk_drew ?_ | refine blk_alloc ?_ _)); exact bd.out) : p := h
theorem zx7_4 {p : Prop} (h : p := by repeat (first | (with_reducible first | exact HB.out | apply below_alloc | apply pw_below_drewN | apply below_drew1) | exact HB.out)) : p := h
theorem zx7_5 {p : Prop} (h : p := by (try simp only [List.map_toArray, List.map_cons, List.map_nil]); first | done | rfl | (simp only [List.length_drop, List.length_take]; rfl)) : p := h
theorem zx7_2 {p : Prop} (h : p := by repeat (first | (with_reducible first | exact HB.out | apply below_alloc | apply pw_below_drewN | apply below_drew1 | refine below_set ?_ bu.out) | exact HB.out)) : p := h
theorem zx7_0 {p : Prop} (h : p := by repeat (first | (with_reducible first | exact HB.out | apply below_alloc | apply pw_below_drewN | apply below_drew1 | refine below_set ?_ bu.out | refine below_set ?_ bP.out) | exact HB.out)) : p := h
set_option linter.unusedVariables false
set_option linter.unusedSimpArgs false

/-! ### mark_Put: function 11 -/
mutual
def mark_Put.l0 : Nat → ByteArray → List (S55) → Int → Int → Option (ByteArray × Int)
 | 0, _, _, _, _ => none
 | k + 1, x4, x24, x25, x26 => if x26 < x25 then (if 0 ≤ x26 then (if x26 < (x24.length : Int) then ((num_PutText.f k ((rd_T55 x24 x26).f0)).bind fun bn => ((mark_numbers.f (([(rd_T55 x24 x26).f1, (rd_T55 x24 x26).f2, (rd_T55 x24 x26).f4, (rd_T55 x24 x26).f5, (rd_T55 x24 x26).f6, IntKind.u64.wrap ((((rd_T55 x24 x26).f3).length : Int))] : List Int))).bind fun bm => (if bn.size + bm.size ≤ 9223372036854775807 then (if x4.size + (bn ++ bm).size ≤ 9223372036854775807 then (mark_Put.l1 k (x4 ++ (bn ++ bm)) ((rd_T55 x24 x26).f2) x24 x25 x26 ((rd_T55 x24 x26).f3) (((rd_T55 x24 x26).f3).length : Int) 0) else (none)) else (none)))) else (none)) else (none)) else (some (x4, 0))
def mark_Put.l1 : Nat → ByteArray → Int → List (S55) → Int → Int → List Int → Int → Int → Option (ByteArray × Int)
 | 0, _, _, _, _, _, _, _, _ => none
 | k + 1, x4, x7, x24, x25, x26, x55, x56, x57 => if x57 < x56 then (if 0 ≤ x57 then (if x57 < (x55.length : Int) then ((mark_numbers.f (([IntKind.u64.wrap ((rd x55 x57) - x7)] : List Int))).bind fun bx => (if x4.size + bx.size ≤ 9223372036854775807 then (mark_Put.l1 k (x4 ++ bx) (rd x55 x57) x24 x25 x26 x55 x56 (wrap64 (x57 + 1))) else (none))) else (none)) else (none)) else (mark_Put.l0 k x4 x24 x25 (wrap64 (x26 + 1)))
end
def mark_Put.f (k : Nat) (bj : Int) (bi : Int) (bb : List (S55)) : Option (ByteArray × Int) := (ledger_Right.f k bj bi bb).bind fun b2 => (if b2 = true then ((mark_numbers.f (([bj, bi, IntKind.u64.wrap ((bb.length : Int))] : List Int))).bind fun bz => (mark_Put.l0 k bz bb (bb.length : Int) 0)) else (some ((⟨#[]⟩ : ByteArray), 1)))
def mark_Put.T7 : Bool × List (List Nat × List Nat) := (true, [([], []), ([], []), ([1], [1]), ([2], [2]), ([], []), ([4], [4]), ([], []), ([6], [6]), ([], []), ([8], [8]), ([], []), ([10], [10]), ([], []), ([12], [12]), ([], []), ([14], [14]), ([15], [15]), ([16], [16]), ([5, 7, 9, 11, 13, 17], [5, 7, 9, 11, 13, 17]), ([18, 3], [18]), ([3, 19], [3, 19]), ([0, 20], [0, 20]), ([21, 19, 0, 1, 2, 3, 4, 5, 6, 7, 8, 9, 10, 11, 12, 13, 14, 15, 16, 17, 18, 19, 20, 21], [0, 21])])
def mark_Put.B7 : List Nat := [0, 0, 2, 6, 0, 16, 0, 64, 0, 256, 0, 1024, 0, 4096, 0, 16384, 49152, 114688, 262128, 524286, 1048574, 2097151, 4194303]
theorem mark_Put.tab7 : rtab .any (opsOf Tryd.f11 7) = mark_Put.T7 := by kernel_rfl
theorem mark_Put.bits7 : waitsOk mark_Put.T7.2 mark_Put.B7 = true := by kernel_rfl
set_option maxHeartbeats 8000000 in
set_option maxRecDepth 100000 in
theorem mark_Put.calls (k : Nat) (bj : Int) (bi : Int) (bw : Option Addr) (bo : Nat) (bb : List (S55)) (r1 : ByteArray) (r2 : Int) (w : World) (dZ : Kd.C k55 w bw bb.length bb) (d0 : bb.length ≤ bo) (h : mark_Put.f k bj bi bb = some (r1, r2)) :
  Calls Tryd.prog 11 #[.agg #[.int .u64 bj, .int .u64 bi, .slice bw bb.length bo]] w fun e w' => e = .returned (.tuple #[.string r1, .int .i64 r2]) ∧ Below w.heap.size w w' := by
 have hs := Tryd.underlying25
 have hq := Tryd.underlying55
 have dt := Aside0.mk dZ
 have gi := Aside0.mk d0
 clear dZ d0
 have HB := Aside0.mk (Below.refl w.heap.size w)
 have H : ((ledger_Right.f k bj bi bb).bind fun b2 => (if b2 = true then ((mark_numbers.f (([bj, bi, IntKind.u64.wrap ((bb.length : Int))] : List Int))).bind fun bz => (mark_Put.l0 k bz bb (bb.length : Int) 0)) else (some ((⟨#[]⟩ : ByteArray), 1)))) = some (r1, r2) := h
 clear h
 replace H := Option.bind_eq_some_iff.mp H
 obtain ⟨b2, A20, H⟩ := H
 replace H : (if b2 = true then ((mark_numbers.f (([bj, bi, IntKind.u64.wrap ((bb.length : Int))] : List Int))).bind fun bz => (mark_Put.l0 k bz bb (bb.length : Int) 0)) else (some ((⟨#[]⟩ : ByteArray), 1))) = some (r1, r2) := H
 have A2 := Aside0.mk A20
 clear A20
 by_cases c3 : b2 = true
 case neg =>
  replace c3 := Bool.eq_false_iff.mpr c3
  subst c3
  have H1 : (some ((⟨#[]⟩ : ByteArray), 1)) = some (r1, r2) := by rw [if_neg (show ¬ (false = true) by decide)] at H; exact H
  clear H
  have H := H1
  clear H1
  simp only [Option.some.injEq, Prod.mk.injEq] at H
  obtain ⟨rfl, rfl⟩ := H
  go_enter Tryd.func11, Tryd.ntmps11
  go_wp2_with (first | ((with_reducible refine gate_dst (N := 1) rfl ?_); refine box_event ?hg (N := 1) ?hd (cs := #[.int .u64 bj, .int .u64 bi, .slice bw bb.length bo]) (t := 25) ?hr ?_; (case hd => rfl); (case hg => rfl); (case hr => first | (go_simp; done) | (go_simp; rfl)); intro bf hg w42 hbox hb; have be := Aside0.mk (hbox); have gE := Aside0.mk ((by rw [hg]; exact (below_size zx7_4) : w.heap.size ≤ bf)); have bu := Aside0.mk ((by rw [hg]; exact (below_size zx7_4) : w.heap.size ≤ bf)); replace HB := Aside0.mk (below_step zx7_4 hb); clear hb hbox hg; have gO : w42.cell? ⟨bf, 0, none⟩ = some (.int .u64 bj) := (blk_cell be.out 0).trans rfl; have gN : w42.cell? ⟨bf, 1, none⟩ = some (.int .u64 bi) := (blk_cell be.out 1).trans rfl; have gM : w42.cell? ⟨bf, 2, none⟩ = some (.slice bw bb.length bo) := (blk_cell be.out 2).trans rfl; have gL := blk_frozen be.out 0; have gK := blk_frozen be.out 1; have gJ := blk_frozen be.out 2) | ((with_reducible refine gate_callee (f := 15) rfl ?_); refine goesL_ (some 11) rfl rfl Tryd.func15 (by kernel_rfl) rfl #[.agg #[.int .u64 bj, .int .u64 bi, .slice bw bb.length bo]] rfl zx7_5 ?_; (with_reducible refine (ledger_Right.calls k bj bi _ _ bb false _ ?side1 ?side2 A2.out).mono ?_); (case side1 => repeat (first | exact (Kd.C_below dt.out HB.out) | (with_reducible refine Kd.C_alloc ?_ _) | (with_reducible refine Kd.C_drewN ?_ _) | (with_reducible refine Kd.C_drew ?_))); (case side2 => exact gi.out); rintro e w44 ⟨rfl, hb⟩; refine ⟨_, rfl, ?_⟩; replace be := Aside0.mk (blk_below (g := bf) (o := .cells #[.int .u64 bj, .int .u64 bi, .slice bw bb.length bo] 25 (0, 0)) zx7_1 hb); replace HB := Aside0.mk (below_step zx7_2 hb); (try clear hb); (try clear hb2); (try clear hk); (try clear hi)))
  go_ret2
  exact ⟨by first | rfl | (simp [errW_none, errW_some] <;> rfl) | (simp [*, errW_none, errW_some] <;> rfl), by repeat (first | (with_reducible first | exact HB.out | apply below_alloc | apply pw_below_drewN | apply below_drew1 | refine below_set ?_ bu.out) | exact HB.out)⟩

 subst c3
 have H1 : ((mark_numbers.f (([bj, bi, IntKind.u64.wrap ((bb.length : Int))] : List Int))).bind fun bz => (mark_Put.l0 k bz bb (bb.length : Int) 0)) = some (r1, r2) := by rw [if_pos rfl] at H; exact H
 clear H
 have H := H1
 clear H1
 obtain ⟨gl, bO⟩ : ∃ y_ : List Int, y_ = (([bj, bi, IntKind.u64.wrap ((bb.length : Int))] : List Int)) := ⟨_, rfl⟩
 replace H : ((mark_numbers.f gl).bind fun bz => (mark_Put.l0 k bz bb (bb.length : Int) 0)) = some (r1, r2) := by first | (rw [bO]; with_reducible exact H) | (have H2_ := (Option.bind_some _ _).symm.trans H; rw [bO]; with_reducible exact H2_) | (have H2_ := (Option.bind_some _ _).symm.trans H; with_reducible exact H2_) | with_reducible exact H | (rw [bO]; exact H) | exact H
 have gh := Aside0.mk bO
 clear bO
 replace H := Option.bind_eq_some_iff.mp H
 obtain ⟨bz, A40, H⟩ := H
 replace H : (mark_Put.l0 k bz bb (bb.length : Int) 0) = some (r1, r2) := H
 have A4 := Aside0.mk A40
 clear A40
 have H' := Aside0.mk H
 clear H
 go_enter Tryd.func11, Tryd.ntmps11
 go_wp2_with (first | ((with_reducible refine gate_dst (N := 1) rfl ?_); refine box_event ?hg (N := 1) ?hd (cs := #[.int .u64 bj, .int .u64 bi, .slice bw bb.length bo]) (t := 25) ?hr ?_; (case hd => rfl); (case hg => rfl); (case hr => first | (go_simp; done) | (go_simp; rfl)); intro bf hg w5 hbox hb; have be := Aside0.mk (hbox); have gE := Aside0.mk ((by rw [hg]; exact (below_size zx7_4) : w.heap.size ≤ bf)); have bu := Aside0.mk ((by rw [hg]; exact (below_size zx7_4) : w.heap.size ≤ bf)); replace HB := Aside0.mk (below_step zx7_4 hb); clear hb hbox hg; have dq : w5.cell? ⟨bf, 0, none⟩ = some (.int .u64 bj) := (blk_cell be.out 0).trans rfl; have dp : w5.cell? ⟨bf, 1, none⟩ = some (.int .u64 bi) := (blk_cell be.out 1).trans rfl; have dn : w5.cell? ⟨bf, 2, none⟩ = some (.slice bw bb.length bo) := (blk_cell be.out 2).trans rfl; have dj := blk_frozen be.out 0; have di := blk_frozen be.out 1; have dh := blk_frozen be.out 2) | ((with_reducible refine gate_callee (f := 15) rfl ?_); refine goesL_ (some 11) rfl rfl Tryd.func15 (by kernel_rfl) rfl #[.agg #[.int .u64 bj, .int .u64 bi, .slice bw bb.length bo]] rfl zx7_5 ?_; (with_reducible refine (ledger_Right.calls k bj bi _ _ bb true _ ?side1 ?side2 A2.out).mono ?_); (case side1 => repeat (first | exact (Kd.C_below dt.out HB.out) | (with_reducible refine Kd.C_alloc ?_ _) | (with_reducible refine Kd.C_drewN ?_ _) | (with_reducible refine Kd.C_drew ?_))); (case side2 => exact gi.out); rintro e w7 ⟨rfl, hb⟩; refine ⟨_, rfl, ?_⟩; replace be := Aside0.mk (blk_below (g := bf) (o := .cells #[.int .u64 bj, .int .u64 bi, .slice bw bb.length bo] 25 (0, 0)) zx7_1 hb); replace HB := Aside0.mk (below_step zx7_2 hb); (try clear hb); (try clear hb2); (try clear hk); (try clear hi); have dm : w7.cell? ⟨bf, 0, none⟩ = some (.int .u64 bj) := (blk_cell be.out 0).trans rfl; have dl : w7.cell? ⟨bf, 1, none⟩ = some (.int .u64 bi) := (blk_cell be.out 1).trans rfl; have dk : w7.cell? ⟨bf, 2, none⟩ = some (.slice bw bb.length bo) := (blk_cell be.out 2).trans rfl; have dg := blk_frozen be.out 0; have df := blk_frozen be.out 1; have de := blk_frozen be.out 2) | ((with_reducible refine gate_dst (N := 21) rfl ?_); refine Kd.R_lit (Kd.int .u64) _ 22 ?hg (N := 21) ?hd (xs := ([bj, bi, IntKind.u64.wrap ((bb.length : Int))] : List Int)) (inner := [.int .u64 bj, .int .u64 bi, .int .u64 (IntKind.u64.wrap ((bb.length : Int)))]) (ok := fun _ => True) (okp := fun _ => True) ?hr ?hp (fun _ hk => hk) trivial (Below.refl _ _) (Nat.le_refl _) (by simp) ?_; (case hd => rfl); (case hg => rfl); (case hr => first | (go_simp; done) | (go_simp; rfl)); (case hp => exact (Reps.one (show Kd.M (Kd.int .u64) _ _ _ bj [.int .u64 bj] from rfl) (Reps.one (show Kd.M (Kd.int .u64) _ _ _ bi [.int .u64 bi] from rfl) (Reps.one (show Kd.M (Kd.int .u64) _ _ _ (IntKind.u64.wrap ((bb.length : Int))) [.int .u64 (IntKind.u64.wrap ((bb.length : Int)))] from rfl) (Reps.none _ _))))); intro hn w9 dd hb hg_ hnew_; clear hg_ hnew_; (first | rw [← gh.out] at dd | (simp only [Int.reduceToNat] at dd; rw [← gh.out] at dd)); have b0 := Aside0.mk (Kd.R_lower dd (below_size zx7_2)); replace be := Aside0.mk (blk_below (g := bf) (o := .cells #[.int .u64 bj, .int .u64 bi, .slice bw bb.length bo] 25 (0, 0)) zx7_1 hb); replace HB := Aside0.mk (below_step zx7_2 hb); clear hb dd; obtain ⟨gX, gV, gR⟩ := Kd.R_slice b0.out; subst gR) | ((with_reducible refine gate_callee (f := 23) rfl ?_); refine goesL_ (some 22) rfl rfl Tryd.func23 (by kernel_rfl) rfl #[.slice gX gl.length gV] rfl zx7_5 ?_; (with_reducible refine (mark_numbers.calls _ _ gl bz _ ?side1 ?side2 A4.out).mono ?_); (case side1 => repeat (first | exact (Kd.R_reads' b0.out).2.2 | (with_reducible refine Kd.C_alloc ?_ _) | (with_reducible refine Kd.C_drewN ?_ _) | (with_reducible refine Kd.C_drew ?_))); (case side2 => exact (Kd.R_reads' b0.out).2.1); rintro e w12 ⟨rfl, hb⟩; refine ⟨_, rfl, ?_⟩;  have n1_ := Aside0.mk (blk_below (g := bf) (o := .cells #[.int .u64 bj, .int .u64 bi, .slice bw bb.length bo] 25 (0, 0)) zx7_1 hb); have n2_ := Aside0.mk (below_step zx7_2 hb); (try clear b0); clear be; clear HB; have be := n1_; have HB := n2_; clear n1_ n2_; (try clear hb); (try clear hb2); (try clear hk); (try clear hi); have bY : w12.cell? ⟨bf, 0, none⟩ = some (.int .u64 bj) := (blk_cell be.out 0).trans rfl; have bX : w12.cell? ⟨bf, 1, none⟩ = some (.int .u64 bi) := (blk_cell be.out 1).trans rfl; have bW : w12.cell? ⟨bf, 2, none⟩ = some (.slice bw bb.length bo) := (blk_cell be.out 2).trans rfl; have bV := blk_frozen be.out 0; have bU := blk_frozen be.out 1; have bS := blk_frozen be.out 2))
 go_loopg [4, 26] k (fun kq v4 v26 w' => ∃ (bp : ByteArray) (ba : Int), v4 = .string bp ∧ v26 = .int .i64 ba ∧ Aside0 (mark_Put.l0 kq bp bb (bb.length : Int) ba = some (r1, r2)) ∧ Aside0 (kq ≤ k) ∧ Aside0 (w'.heap[bf]? = some (.cells #[.int .u64 bj, .int .u64 bi, (.slice bw bb.length bo)] 25 (0, 0))) ∧ Aside0 (Below w.heap.size w w'))
 case atStart => exact ⟨(bz), (0), zx7_6, zx7_6, H', ⟨Nat.le_refl _⟩, ⟨by (with_reducible repeat (first | refine blk_drewN ?_ _ | refine blk_drew ?_ | refine blk_alloc ?_ _)); exact be.out⟩, ⟨by repeat (first | (with_reducible first | exact HB.out | apply below_alloc | apply pw_below_drewN | apply below_drew1 | refine below_set ?_ bu.out) | exact HB.out)⟩⟩
 case round =>
  clear H'
  (try clear c1); (try clear c2); (try clear p2); (try clear c3); (try clear c11); (try clear bY); (try clear bX); (try clear bW); (try clear dq); (try clear dp); (try clear dn); (try clear dm); (try clear dl); (try clear dk); (try clear bV); (try clear bU); (try clear bS); (try clear dj); (try clear di); (try clear dh); (try clear dg); (try clear df); (try clear de)
  obtain ⟨bp, ba, rfl, rfl, HA, HK1, be, HB⟩ := hrel
  cases gk with
  | zero => exact absurd HA.out (by simp [mark_Put.l0])
  | succ k1 => ?_
  have H := HA.out
  clear HA
  simp only [mark_Put.l0] at H
  by_cases c14 : ba < (bb.length : Int)
  case neg =>
   rw [if_neg c14] at H
   have gb : decide (ba < (bb.length : Int)) = false := decide_eq_false c14
   clear c14
   simp only [Option.some.injEq, Prod.mk.injEq] at H
   obtain ⟨rfl, rfl⟩ := H
   go_wp2
   go_ret2
   exact ⟨by first | rfl | (simp [errW_none, errW_some] <;> rfl) | (simp [*, errW_none, errW_some] <;> rfl), by repeat (first | (with_reducible first | exact HB.out | apply below_alloc | apply pw_below_drewN | apply below_drew1 | refine below_set ?_ bu.out) | exact HB.out)⟩
  rw [if_pos c14] at H
  have gb : decide (ba < (bb.length : Int)) = true := decide_eq_true c14
  clear c14
  by_cases c15 : 0 ≤ ba
  case neg =>
   rw [if_neg c15] at H
   exact absurd H (by simp)
  rw [if_pos c15] at H
  have gD : decide (0 ≤ ba) = true := decide_eq_true c15
  clear c15
  by_cases c16 : ba < (bb.length : Int)
  case neg =>
   rw [if_neg c16] at H
   exact absurd H (by simp)
  rw [if_pos c16] at H
  have gC : decide (ba < (bb.length : Int)) = true := decide_eq_true c16
  clear c16
  replace H := Option.bind_eq_some_iff.mp H
  obtain ⟨bn, gI, H⟩ := H
  replace H : ((mark_numbers.f (([(rd_T55 bb ba).f1, (rd_T55 bb ba).f2, (rd_T55 bb ba).f4, (rd_T55 bb ba).f5, (rd_T55 bb ba).f6, IntKind.u64.wrap ((((rd_T55 bb ba).f3).length : Int))] : List Int))).bind fun bm => (if bn.size + bm.size ≤ 9223372036854775807 then (if bp.size + (bn ++ bm).size ≤ 9223372036854775807 then (mark_Put.l1 k1 (bp ++ (bn ++ bm)) ((rd_T55 bb ba).f2) bb (bb.length : Int) ba ((rd_T55 bb ba).f3) (((rd_T55 bb ba).f3).length : Int) 0) else (none)) else (none))) = some (r1, r2) := H
  have A17 := Aside0.mk gI
  clear gI
  obtain ⟨b1, bN⟩ : ∃ y_ : List Int, y_ = (([(rd_T55 bb ba).f1, (rd_T55 bb ba).f2, (rd_T55 bb ba).f4, (rd_T55 bb ba).f5, (rd_T55 bb ba).f6, IntKind.u64.wrap ((((rd_T55 bb ba).f3).length : Int))] : List Int)) := ⟨_, rfl⟩
  replace H : ((mark_numbers.f b1).bind fun bm => (if bn.size + bm.size ≤ 9223372036854775807 then (if bp.size + (bn ++ bm).size ≤ 9223372036854775807 then (mark_Put.l1 k1 (bp ++ (bn ++ bm)) ((rd_T55 bb ba).f2) bb (bb.length : Int) ba ((rd_T55 bb ba).f3) (((rd_T55 bb ba).f3).length : Int) 0) else (none)) else (none))) = some (r1, r2) := by first | (rw [bN]; with_reducible exact H) | (have H2_ := (Option.bind_some _ _).symm.trans H; rw [bN]; with_reducible exact H2_) | (have H2_ := (Option.bind_some _ _).symm.trans H; with_reducible exact H2_) | with_reducible exact H | (rw [bN]; exact H) | exact H
  have gg := Aside0.mk bN
  clear bN
  replace H := Option.bind_eq_some_iff.mp H
  obtain ⟨bm, gH, H⟩ := H
  replace H : (if bn.size + bm.size ≤ 9223372036854775807 then (if bp.size + (bn ++ bm).size ≤ 9223372036854775807 then (mark_Put.l1 k1 (bp ++ (bn ++ bm)) ((rd_T55 bb ba).f2) bb (bb.length : Int) ba ((rd_T55 bb ba).f3) (((rd_T55 bb ba).f3).length : Int) 0) else (none)) else (none)) = some (r1, r2) := H
  have A18 := Aside0.mk gH
  clear gH
  by_cases c19 : bn.size + bm.size ≤ 9223372036854775807
  case neg =>
   rw [if_neg c19] at H
   exact absurd H (by simp)
  rw [if_pos c19] at H
  have gB := eq_true c19
  have gA : decide (bn.size + bm.size ≤ 9223372036854775807) = true := decide_eq_true c19
  try have gz : (9223372036854775807 < bn.size + bm.size) = False := eq_false (Nat.not_lt.2 c19)
  clear c19
  by_cases c20 : bp.size + (bn ++ bm).size ≤ 9223372036854775807
  case neg =>
   rw [if_neg c20] at H
   exact absurd H (by simp)
  rw [if_pos c20] at H
  have gy := eq_true c20
  have gx : decide (bp.size + (bn ++ bm).size ≤ 9223372036854775807) = true := decide_eq_true c20
  try have ga : (9223372036854775807 < bp.size + (bn ++ bm).size) = False := eq_false (Nat.not_lt.2 c20)
  try (have gw := ga; simp only [ByteArray.size_append] at gw)
  clear c20
  have H' := Aside0.mk H
  clear H
  have dv : 0 ≤ (ba : Int) := of_decide_eq_true (by first | (with_reducible assumption) | assumption)
  have du : ba < (bb.length : Int) := of_decide_eq_true (by first | (with_reducible assumption) | assumption)
  obtain ⟨br, bh, bg, gT, bI, bH, bG, bE, bD, bC, bB, bQ, bR⟩ := at_T55 dt.out ba dv du
  cases gT
  replace bI := (HB.out.cell (World.block_lt_of_cell? w _ bI)).trans bI
  replace bH := (HB.out.cell (World.block_lt_of_cell? w _ bH)).trans bH
  replace bG := (HB.out.cell (World.block_lt_of_cell? w _ bG)).trans bG
  replace bE := (HB.out.cell (World.block_lt_of_cell? w _ bE)).trans bE
  replace bD := (HB.out.cell (World.block_lt_of_cell? w _ bD)).trans bD
  replace bC := (HB.out.cell (World.block_lt_of_cell? w _ bC)).trans bC
  replace bB := (HB.out.cell (World.block_lt_of_cell? w _ bB)).trans bB
  have dY := Aside0.mk bR
  have gP := Aside0.mk bQ
  clear bR bQ
  replace dv := eq_true dv
  replace du := eq_true du
  try go_wp2_with (first | ((with_reducible refine gate_dst (N := 6) rfl ?_); refine box_event ?hg (N := 6) ?hd (cs := #[.string (⟨#[]⟩ : ByteArray), .int .u64 0, .int .u64 0, .slice none 0 0, .int .u64 0, .int .u64 0, .int .u64 0]) (t := 55) ?hr ?_; (case hd => rfl); (case hg => rfl); (case hr => first | (go_simp; done) | (go_simp; rfl)); intro bc hg w21 hbox hb; have bd := Aside0.mk (hbox); have hl := Aside0.mk ((by rw [hg]; exact (below_size zx7_2) : w.heap.size ≤ bc)); have bP := Aside0.mk ((by rw [hg]; exact (below_size zx7_2) : w.heap.size ≤ bc)); replace HB := Aside0.mk (below_step zx7_2 hb); have bJ := Aside0.mk ((by rw [hg]; exact Nat.ne_of_lt (blk_lt (g := bf) (o := .cells #[.int .u64 bj, .int .u64 bi, .slice (some br) bb.length bo] 25 (0, 0)) zx7_1) : bf ≠ bc)); have da := Aside0.mk ((by rw [hg]; exact Nat.ne_of_gt (blk_lt (g := bf) (o := .cells #[.int .u64 bj, .int .u64 bi, .slice (some br) bb.length bo] 25 (0, 0)) zx7_1) : bc ≠ bf)); replace be := Aside0.mk (blk_below (g := bf) (o := .cells #[.int .u64 bj, .int .u64 bi, .slice (some br) bb.length bo] 25 (0, 0)) zx7_1 hb); clear hb hbox hg; have gZ := da.out; have gY := bJ.out; have dX : w21.cell? ⟨bc, 0, none⟩ = some (.string (⟨#[]⟩ : ByteArray)) := (blk_cell bd.out 0).trans rfl; have dW : w21.cell? ⟨bc, 1, none⟩ = some (.int .u64 0) := (blk_cell bd.out 1).trans rfl; have dV : w21.cell? ⟨bc, 2, none⟩ = some (.int .u64 0) := (blk_cell bd.out 2).trans rfl; have dU : w21.cell? ⟨bc, 3, none⟩ = some (.slice none 0 0) := (blk_cell bd.out 3).trans rfl; have dT : w21.cell? ⟨bc, 4, none⟩ = some (.int .u64 0) := (blk_cell bd.out 4).trans rfl; have dS : w21.cell? ⟨bc, 5, none⟩ = some (.int .u64 0) := (blk_cell bd.out 5).trans rfl; have dR : w21.cell? ⟨bc, 6, none⟩ = some (.int .u64 0) := (blk_cell bd.out 6).trans rfl; have dJ := blk_frozen bd.out 0; have dI := blk_frozen bd.out 1; have dH := blk_frozen bd.out 2; have dG := blk_frozen bd.out 3; have dF := blk_frozen bd.out 4; have dE := blk_frozen bd.out 5; have dD := blk_frozen bd.out 6))
  have n0_ : Aside0 ((((((((w21.setCell ⟨bc, 0, none⟩ (.string ((rd_T55 bb ba).f0))).setCell ⟨bc, 1, none⟩ (.int .u64 ((rd_T55 bb ba).f1))).setCell ⟨bc, 2, none⟩ (.int .u64 ((rd_T55 bb ba).f2))).setCell ⟨bc, 3, none⟩ (.slice bh ((rd_T55 bb ba).f3).length bg)).setCell ⟨bc, 4, none⟩ (.int .u64 ((rd_T55 bb ba).f4))).setCell ⟨bc, 5, none⟩ (.int .u64 ((rd_T55 bb ba).f5))).setCell ⟨bc, 6, none⟩ (.int .u64 ((rd_T55 bb ba).f6))).heap[bf]? = some (.cells #[.int .u64 bj, .int .u64 bi, .slice (some br) bb.length bo] 25 (0, 0))) := ⟨by (iterate 7 ((with_reducible repeat (first | refine blk_drewN ?_ _ | refine blk_drew ?_ | refine blk_alloc ?_ _)); refine blk_far ?_ bJ.out _)); (with_reducible repeat (first | refine blk_drewN ?_ _ | refine blk_drew ?_ | refine blk_alloc ?_ _)); exact be.out⟩
  have n1_ : Aside0 ((((((((w21.setCell ⟨bc, 0, none⟩ (.string ((rd_T55 bb ba).f0))).setCell ⟨bc, 1, none⟩ (.int .u64 ((rd_T55 bb ba).f1))).setCell ⟨bc, 2, none⟩ (.int .u64 ((rd_T55 bb ba).f2))).setCell ⟨bc, 3, none⟩ (.slice bh ((rd_T55 bb ba).f3).length bg)).setCell ⟨bc, 4, none⟩ (.int .u64 ((rd_T55 bb ba).f4))).setCell ⟨bc, 5, none⟩ (.int .u64 ((rd_T55 bb ba).f5))).setCell ⟨bc, 6, none⟩ (.int .u64 ((rd_T55 bb ba).f6))).heap[bc]? = some (.cells #[.string ((rd_T55 bb ba).f0), .int .u64 ((rd_T55 bb ba).f1), .int .u64 ((rd_T55 bb ba).f2), .slice bh ((rd_T55 bb ba).f3).length bg, .int .u64 ((rd_T55 bb ba).f4), .int .u64 ((rd_T55 bb ba).f5), .int .u64 ((rd_T55 bb ba).f6)] 55 (0, 0))) := ⟨by (with_reducible repeat (first | refine blk_drewN ?_ _ | refine blk_drew ?_ | refine blk_alloc ?_ _)); refine blk_put (cs := #[.string ((rd_T55 bb ba).f0), .int .u64 ((rd_T55 bb ba).f1), .int .u64 ((rd_T55 bb ba).f2), .slice bh ((rd_T55 bb ba).f3).length bg, .int .u64 ((rd_T55 bb ba).f4), .int .u64 ((rd_T55 bb ba).f5), .int .u64 0]) ?_ 6 _ rfl; (with_reducible repeat (first | refine blk_drewN ?_ _ | refine blk_drew ?_ | refine blk_alloc ?_ _)); refine blk_put (cs := #[.string ((rd_T55 bb ba).f0), .int .u64 ((rd_T55 bb ba).f1), .int .u64 ((rd_T55 bb ba).f2), .slice bh ((rd_T55 bb ba).f3).length bg, .int .u64 ((rd_T55 bb ba).f4), .int .u64 0, .int .u64 0]) ?_ 5 _ rfl; (with_reducible repeat (first | refine blk_drewN ?_ _ | refine blk_drew ?_ | refine blk_alloc ?_ _)); refine blk_put (cs := #[.string ((rd_T55 bb ba).f0), .int .u64 ((rd_T55 bb ba).f1), .int .u64 ((rd_T55 bb ba).f2), .slice bh ((rd_T55 bb ba).f3).length bg, .int .u64 0, .int .u64 0, .int .u64 0]) ?_ 4 _ rfl; (with_reducible repeat (first | refine blk_drewN ?_ _ | refine blk_drew ?_ | refine blk_alloc ?_ _)); refine blk_put (cs := #[.string ((rd_T55 bb ba).f0), .int .u64 ((rd_T55 bb ba).f1), .int .u64 ((rd_T55 bb ba).f2), .slice none 0 0, .int .u64 0, .int .u64 0, .int .u64 0]) ?_ 3 _ rfl; (with_reducible repeat (first | refine blk_drewN ?_ _ | refine blk_drew ?_ | refine blk_alloc ?_ _)); refine blk_put (cs := #[.string ((rd_T55 bb ba).f0), .int .u64 ((rd_T55 bb ba).f1), .int .u64 0, .slice none 0 0, .int .u64 0, .int .u64 0, .int .u64 0]) ?_ 2 _ rfl; (with_reducible repeat (first | refine blk_drewN ?_ _ | refine blk_drew ?_ | refine blk_alloc ?_ _)); refine blk_put (cs := #[.string ((rd_T55 bb ba).f0), .int .u64 0, .int .u64 0, .slice none 0 0, .int .u64 0, .int .u64 0, .int .u64 0]) ?_ 1 _ rfl; (with_reducible repeat (first | refine blk_drewN ?_ _ | refine blk_drew ?_ | refine blk_alloc ?_ _)); refine blk_put (cs := #[.string (⟨#[]⟩ : ByteArray), .int .u64 0, .int .u64 0, .slice none 0 0, .int .u64 0, .int .u64 0, .int .u64 0]) ?_ 0 _ rfl; (with_reducible repeat (first | refine blk_drewN ?_ _ | refine blk_drew ?_ | refine blk_alloc ?_ _)); exact bd.out⟩
  have n2_ : Aside0 (Below w.heap.size w (((((((w21.setCell ⟨bc, 0, none⟩ (.string ((rd_T55 bb ba).f0))).setCell ⟨bc, 1, none⟩ (.int .u64 ((rd_T55 bb ba).f1))).setCell ⟨bc, 2, none⟩ (.int .u64 ((rd_T55 bb ba).f2))).setCell ⟨bc, 3, none⟩ (.slice bh ((rd_T55 bb ba).f3).length bg)).setCell ⟨bc, 4, none⟩ (.int .u64 ((rd_T55 bb ba).f4))).setCell ⟨bc, 5, none⟩ (.int .u64 ((rd_T55 bb ba).f5))).setCell ⟨bc, 6, none⟩ (.int .u64 ((rd_T55 bb ba).f6)))) := ⟨by repeat (first | (with_reducible first | exact HB.out | apply below_alloc | apply pw_below_drewN | apply below_drew1 | refine below_set ?_ bu.out | refine below_set ?_ bP.out) | exact HB.out)⟩
  (try clear be)
  (try clear bd)
  (try clear HB)
  generalize (((((((w21.setCell ⟨bc, 0, none⟩ (.string ((rd_T55 bb ba).f0))).setCell ⟨bc, 1, none⟩ (.int .u64 ((rd_T55 bb ba).f1))).setCell ⟨bc, 2, none⟩ (.int .u64 ((rd_T55 bb ba).f2))).setCell ⟨bc, 3, none⟩ (.slice bh ((rd_T55 bb ba).f3).length bg)).setCell ⟨bc, 4, none⟩ (.int .u64 ((rd_T55 bb ba).f4))).setCell ⟨bc, 5, none⟩ (.int .u64 ((rd_T55 bb ba).f5))).setCell ⟨bc, 6, none⟩ (.int .u64 ((rd_T55 bb ba).f6))) = w24 at n0_ n1_ n2_ ⊢
  have be := n0_
  have bd := n1_
  have HB := n2_
  clear n0_ n1_ n2_
  replace be := Aside0.mk (blk_drew be.out)
  replace bd := Aside0.mk (blk_drew bd.out)
  replace HB := Aside0.mk (below_drew1 HB.out)
  refine start_ (n := 23) (S := fun w' => True) (ds := []) #[Ff,Ff,Ff,Ff,Ff,Ff,Ff,Ff,Ff,Ff,Ff,Ff,Ff,Ff,Ff,Ff,Ff,Ff,Ff,Ff,Ff,Ff,Ff] (by kernel_rfl) rfl rfl trivial (fun hHeld => ?_); refine with_tabW mark_Put.tab7 mark_Put.bits7 (fun HT_ HW_ => ?_)
  generalize w24.drew = w25 at be bd HB hHeld ⊢
  refine pp_ 0 (some 30) HT_.out ?_
  refine pp_ 1 (some 31) HT_.out ?_
  refine pp_ 4 (some 34) HT_.out ?_
  refine pp_ 6 (some 36) HT_.out ?_
  refine pp_ 8 (some 38) HT_.out ?_
  refine pp_ 10 (some 40) HT_.out ?_
  refine pp_ 12 (some 42) HT_.out ?_
  refine pp_ 14 (some 44) HT_.out ?_
  refine inv_at [2, 3, 5, 7, 9, 11, 13, 15, 16, 17, 18, 19, 20, 21, 22] (fun a0_ b a w' => ∃ (bl : Value), a = putSel a0_ b [(2, 32, .string ((rd_T55 bb ba).f0)), (3, 33, .string bn), (5, 35, .int .u64 ((rd_T55 bb ba).f1)), (7, 37, .int .u64 ((rd_T55 bb ba).f2)), (9, 39, .int .u64 ((rd_T55 bb ba).f4)), (11, 41, .int .u64 ((rd_T55 bb ba).f5)), (13, 43, .int .u64 ((rd_T55 bb ba).f6)), (15, 45, .slice bh ((rd_T55 bb ba).f3).length bg), (16, 46, .int .i64 (((rd_T55 bb ba).f3).length : Int)), (17, 47, .int .u64 (IntKind.u64.wrap ((((rd_T55 bb ba).f3).length : Int)))), (18, 48, bl), (19, 49, .string bm), (20, 50, .string (bn ++ bm)), (21, 51, .string (bp ++ (bn ++ bm))), (22, 4, .string (bp ++ (bn ++ bm)))] ∧ (w'.heap[bf]? = some (.cells #[.int .u64 bj, .int .u64 bi, .slice (some br) bb.length bo] 25 (0, 0))) ∧ (w'.heap[bc]? = some (.cells #[.string ((rd_T55 bb ba).f0), .int .u64 ((rd_T55 bb ba).f1), .int .u64 ((rd_T55 bb ba).f2), .slice bh ((rd_T55 bb ba).f3).length bg, .int .u64 ((rd_T55 bb ba).f4), .int .u64 ((rd_T55 bb ba).f5), .int .u64 ((rd_T55 bb ba).f6)] 55 (0, 0))) ∧ (Below w.heap.size w w') ∧ (b 18 = true → Kd.R (Kd.int .u64) 22 w' w.heap.size (fun _ => True) bl b1)) HT_.out HW_.out (by kernel_rfl) (by kernel_rfl) ?_ ?_ ?_
  ·exact ⟨.bool false, by simp only [putSel, Bool.false_eq_true, if_false], be.out, bd.out, HB.out, fun h_ => absurd h_ (by decide)⟩
  ·skip
   clear be bd HB
   refine steps_cons ?_ ?_
   ·rintro b a w' ⟨bl, ha, Q_BK122, Q_BK129, Q_HB, Q_HO133⟩ hb_ hon hoff
    refine ⟨_, rfl, fun K hK => ?_⟩
    have e31 : a.tmps[31]? = some (.pointer (some ⟨bc, 0, none⟩)) := by rw [ha]; exact (putSel_off rfl).trans rfl
    replace ha := Aside0.mk ha
    have be := Aside0.mk Q_BK122
    have bd := Aside0.mk Q_BK129
    have HB := Aside0.mk Q_HB
    have b9 : w'.cell? ⟨bc, 0, none⟩ = some (.string ((rd_T55 bb ba).f0)) := (blk_cell bd.out 0).trans rfl
    have b8 : w'.cell? ⟨bc, 1, none⟩ = some (.int .u64 ((rd_T55 bb ba).f1)) := (blk_cell bd.out 1).trans rfl
    have b7 : w'.cell? ⟨bc, 2, none⟩ = some (.int .u64 ((rd_T55 bb ba).f2)) := (blk_cell bd.out 2).trans rfl
    have b6 : w'.cell? ⟨bc, 3, none⟩ = some (.slice bh ((rd_T55 bb ba).f3).length bg) := (blk_cell bd.out 3).trans rfl
    have b5 : w'.cell? ⟨bc, 4, none⟩ = some (.int .u64 ((rd_T55 bb ba).f4)) := (blk_cell bd.out 4).trans rfl
    have b4 : w'.cell? ⟨bc, 5, none⟩ = some (.int .u64 ((rd_T55 bb ba).f5)) := (blk_cell bd.out 5).trans rfl
    have b3 : w'.cell? ⟨bc, 6, none⟩ = some (.int .u64 ((rd_T55 bb ba).f6)) := (blk_cell bd.out 6).trans rfl
    refine value_ (w1 := w') (v := .string ((rd_T55 bb ba).f0)) (by rfl) rfl ?_ ?_
    ·go_simp
     (try simp only [i64_w])
     try rfl
    refine hK.out _ _ ⟨bl, (by rw [ha.out]; exact putSel_upk 0 hb_ rfl rfl rfl), Q_BK122, Q_BK129, Q_HB, Q_HO133⟩
   refine steps_cons ?_ ?_
   ·rintro b a w' ⟨bl, ha, Q_BK122, Q_BK129, Q_HB, Q_HO133⟩ hb_ hon hoff
    refine ⟨_, rfl, fun K hK => ?_⟩
    have e32 : a.tmps[32]? = some (.string ((rd_T55 bb ba).f0)) := by rw [ha]; exact putSel_on (e := (2, 32, .string ((rd_T55 bb ba).f0))) 0 rfl rfl (hon 2 (by kernel_rfl)) rfl
    replace ha := Aside0.mk ha
    have be := Aside0.mk Q_BK122
    have bd := Aside0.mk Q_BK129
    have HB := Aside0.mk Q_HB
    refine goes_ Tryd.func24 (by kernel_rfl) rfl #[.string ((rd_T55 bb ba).f0)] (by rfl) rfl rfl (by first | (simp only [List.map_toArray, List.map_cons, List.map_nil, Act.eval, Array.getD_eq_getD_getElem?, Option.getD_some, e32]; done) | (simp only [List.map_toArray, List.map_cons, List.map_nil, Act.eval, Array.getD_eq_getD_getElem?, Option.getD_some, e32]; rfl)) ?_
    with_reducible refine (num_PutText.calls k1 ((rd_T55 bb ba).f0) bn _ A17.out).mono ?_
    rintro e w26 ⟨rfl, hb⟩
    refine ⟨_, rfl, ?_⟩
    have n0_ := Aside0.mk (blk_below (g := bf) (o := .cells #[.int .u64 bj, .int .u64 bi, .slice (some br) bb.length bo] 25 (0, 0)) zx7_1 hb)
    have n1_ := Aside0.mk (blk_below (g := bc) (o := .cells #[.string ((rd_T55 bb ba).f0), .int .u64 ((rd_T55 bb ba).f1), .int .u64 ((rd_T55 bb ba).f2), .slice bh ((rd_T55 bb ba).f3).length bg, .int .u64 ((rd_T55 bb ba).f4), .int .u64 ((rd_T55 bb ba).f5), .int .u64 ((rd_T55 bb ba).f6)] 55 (0, 0)) zx7_3 hb)
    have n2_ := Aside0.mk (below_step zx7_0 hb)
    have z_HO133 := fun (h0_ : b 18 = true) => (show Kd.R (Kd.int .u64) 22 w26 w.heap.size (fun _ => True) bl b1 from by first | exact (Kd.R_below (by (with_reducible repeat (first | apply Kd.R_alloc | apply Kd.R_drewN | apply Kd.R_drew)); exact (Q_HO133 h0_)) hb) | exact Kd.R_mono (Kd.R_below (by (with_reducible repeat (first | apply Kd.R_alloc | apply Kd.R_drewN | apply Kd.R_drew)); exact (Q_HO133 h0_)) hb) (fun _ h_ => by first | trivial | exact h_ | exact h_.1))
    clear be
    clear bd
    clear HB
    have be := n0_
    have bd := n1_
    have HB := n2_
    clear n0_ n1_ n2_
    (try clear hb)
    (try clear hb2)
    (try clear hk)
    (try clear hi)
    refine hK.out _ _ ⟨bl, (by rw [ha.out]; exact putSel_upk 1 hb_ rfl rfl rfl), zx7_1, zx7_3, zx7_0, z_HO133⟩
   refine steps_cons ?_ ?_
   ·rintro b a w' ⟨bl, ha, Q_BK122, Q_BK129, Q_HB, Q_HO133⟩ hb_ hon hoff
    refine ⟨_, rfl, fun K hK => ?_⟩
    have e34 : a.tmps[34]? = some (.pointer (some ⟨bc, 1, none⟩)) := by rw [ha]; exact (putSel_off rfl).trans rfl
    replace ha := Aside0.mk ha
    have be := Aside0.mk Q_BK122
    have bd := Aside0.mk Q_BK129
    have HB := Aside0.mk Q_HB
    have b9 : w'.cell? ⟨bc, 0, none⟩ = some (.string ((rd_T55 bb ba).f0)) := (blk_cell bd.out 0).trans rfl
    have b8 : w'.cell? ⟨bc, 1, none⟩ = some (.int .u64 ((rd_T55 bb ba).f1)) := (blk_cell bd.out 1).trans rfl
    have b7 : w'.cell? ⟨bc, 2, none⟩ = some (.int .u64 ((rd_T55 bb ba).f2)) := (blk_cell bd.out 2).trans rfl
    have b6 : w'.cell? ⟨bc, 3, none⟩ = some (.slice bh ((rd_T55 bb ba).f3).length bg) := (blk_cell bd.out 3).trans rfl
    have b5 : w'.cell? ⟨bc, 4, none⟩ = some (.int .u64 ((rd_T55 bb ba).f4)) := (blk_cell bd.out 4).trans rfl
    have b4 : w'.cell? ⟨bc, 5, none⟩ = some (.int .u64 ((rd_T55 bb ba).f5)) := (blk_cell bd.out 5).trans rfl
    have b3 : w'.cell? ⟨bc, 6, none⟩ = some (.int .u64 ((rd_T55 bb ba).f6)) := (blk_cell bd.out 6).trans rfl
    refine value_ (w1 := w') (v := .int .u64 ((rd_T55 bb ba).f1)) (by rfl) rfl ?_ ?_
    ·go_simp
     (try simp only [i64_w])
     try rfl
    refine hK.out _ _ ⟨bl, (by rw [ha.out]; exact putSel_upk 2 hb_ rfl rfl rfl), Q_BK122, Q_BK129, Q_HB, fun h0_ => absurd ((hoff 18 (by kernel_rfl)).symm.trans h0_) (by decide)⟩
   refine steps_cons ?_ ?_
   ·rintro b a w' ⟨bl, ha, Q_BK122, Q_BK129, Q_HB, Q_HO133⟩ hb_ hon hoff
    refine ⟨_, rfl, fun K hK => ?_⟩
    have e36 : a.tmps[36]? = some (.pointer (some ⟨bc, 2, none⟩)) := by rw [ha]; exact (putSel_off rfl).trans rfl
    replace ha := Aside0.mk ha
    have be := Aside0.mk Q_BK122
    have bd := Aside0.mk Q_BK129
    have HB := Aside0.mk Q_HB
    have b9 : w'.cell? ⟨bc, 0, none⟩ = some (.string ((rd_T55 bb ba).f0)) := (blk_cell bd.out 0).trans rfl
    have b8 : w'.cell? ⟨bc, 1, none⟩ = some (.int .u64 ((rd_T55 bb ba).f1)) := (blk_cell bd.out 1).trans rfl
    have b7 : w'.cell? ⟨bc, 2, none⟩ = some (.int .u64 ((rd_T55 bb ba).f2)) := (blk_cell bd.out 2).trans rfl
    have b6 : w'.cell? ⟨bc, 3, none⟩ = some (.slice bh ((rd_T55 bb ba).f3).length bg) := (blk_cell bd.out 3).trans rfl
    have b5 : w'.cell? ⟨bc, 4, none⟩ = some (.int .u64 ((rd_T55 bb ba).f4)) := (blk_cell bd.out 4).trans rfl
    have b4 : w'.cell? ⟨bc, 5, none⟩ = some (.int .u64 ((rd_T55 bb ba).f5)) := (blk_cell bd.out 5).trans rfl
    have b3 : w'.cell? ⟨bc, 6, none⟩ = some (.int .u64 ((rd_T55 bb ba).f6)) := (blk_cell bd.out 6).trans rfl
    refine value_ (w1 := w') (v := .int .u64 ((rd_T55 bb ba).f2)) (by rfl) rfl ?_ ?_
    ·go_simp
     (try simp only [i64_w])
     try rfl
    refine hK.out _ _ ⟨bl, (by rw [ha.out]; exact putSel_upk 3 hb_ rfl rfl rfl), Q_BK122, Q_BK129, Q_HB, fun h0_ => absurd ((hoff 18 (by kernel_rfl)).symm.trans h0_) (by decide)⟩
   refine steps_cons ?_ ?_
   ·rintro b a w' ⟨bl, ha, Q_BK122, Q_BK129, Q_HB, Q_HO133⟩ hb_ hon hoff
    refine ⟨_, rfl, fun K hK => ?_⟩
    have e38 : a.tmps[38]? = some (.pointer (some ⟨bc, 4, none⟩)) := by rw [ha]; exact (putSel_off rfl).trans rfl
    replace ha := Aside0.mk ha
    have be := Aside0.mk Q_BK122
    have bd := Aside0.mk Q_BK129
    have HB := Aside0.mk Q_HB
    have b9 : w'.cell? ⟨bc, 0, none⟩ = some (.string ((rd_T55 bb ba).f0)) := (blk_cell bd.out 0).trans rfl
    have b8 : w'.cell? ⟨bc, 1, none⟩ = some (.int .u64 ((rd_T55 bb ba).f1)) := (blk_cell bd.out 1).trans rfl
    have b7 : w'.cell? ⟨bc, 2, none⟩ = some (.int .u64 ((rd_T55 bb ba).f2)) := (blk_cell bd.out 2).trans rfl
    have b6 : w'.cell? ⟨bc, 3, none⟩ = some (.slice bh ((rd_T55 bb ba).f3).length bg) := (blk_cell bd.out 3).trans rfl
    have b5 : w'.cell? ⟨bc, 4, none⟩ = some (.int .u64 ((rd_T55 bb ba).f4)) := (blk_cell bd.out 4).trans rfl
    have b4 : w'.cell? ⟨bc, 5, none⟩ = some (.int .u64 ((rd_T55 bb ba).f5)) := (blk_cell bd.out 5).trans rfl
    have b3 : w'.cell? ⟨bc, 6, none⟩ = some (.int .u64 ((rd_T55 bb ba).f6)) := (blk_cell bd.out 6).trans rfl
    refine value_ (w1 := w') (v := .int .u64 ((rd_T55 bb ba).f4)) (by rfl) rfl ?_ ?_
    ·go_simp
     (try simp only [i64_w])
     try rfl
    refine hK.out _ _ ⟨bl, (by rw [ha.out]; exact putSel_upk 4 hb_ rfl rfl rfl), Q_BK122, Q_BK129, Q_HB, fun h0_ => absurd ((hoff 18 (by kernel_rfl)).symm.trans h0_) (by decide)⟩
   refine steps_cons ?_ ?_
   ·rintro b a w' ⟨bl, ha, Q_BK122, Q_BK129, Q_HB, Q_HO133⟩ hb_ hon hoff
    refine ⟨_, rfl, fun K hK => ?_⟩
    have e40 : a.tmps[40]? = some (.pointer (some ⟨bc, 5, none⟩)) := by rw [ha]; exact (putSel_off rfl).trans rfl
    replace ha := Aside0.mk ha
    have be := Aside0.mk Q_BK122
    have bd := Aside0.mk Q_BK129
    have HB := Aside0.mk Q_HB
    have b9 : w'.cell? ⟨bc, 0, none⟩ = some (.string ((rd_T55 bb ba).f0)) := (blk_cell bd.out 0).trans rfl
    have b8 : w'.cell? ⟨bc, 1, none⟩ = some (.int .u64 ((rd_T55 bb ba).f1)) := (blk_cell bd.out 1).trans rfl
    have b7 : w'.cell? ⟨bc, 2, none⟩ = some (.int .u64 ((rd_T55 bb ba).f2)) := (blk_cell bd.out 2).trans rfl
    have b6 : w'.cell? ⟨bc, 3, none⟩ = some (.slice bh ((rd_T55 bb ba).f3).length bg) := (blk_cell bd.out 3).trans rfl
    have b5 : w'.cell? ⟨bc, 4, none⟩ = some (.int .u64 ((rd_T55 bb ba).f4)) := (blk_cell bd.out 4).trans rfl
    have b4 : w'.cell? ⟨bc, 5, none⟩ = some (.int .u64 ((rd_T55 bb ba).f5)) := (blk_cell bd.out 5).trans rfl
    have b3 : w'.cell? ⟨bc, 6, none⟩ = some (.int .u64 ((rd_T55 bb ba).f6)) := (blk_cell bd.out 6).trans rfl
    refine value_ (w1 := w') (v := .int .u64 ((rd_T55 bb ba).f5)) (by rfl) rfl ?_ ?_
    ·go_simp
     (try simp only [i64_w])
     try rfl
    refine hK.out _ _ ⟨bl, (by rw [ha.out]; exact putSel_upk 5 hb_ rfl rfl rfl), Q_BK122, Q_BK129, Q_HB, fun h0_ => absurd ((hoff 18 (by kernel_rfl)).symm.trans h0_) (by decide)⟩
   refine steps_cons ?_ ?_
   ·rintro b a w' ⟨bl, ha, Q_BK122, Q_BK129, Q_HB, Q_HO133⟩ hb_ hon hoff
    refine ⟨_, rfl, fun K hK => ?_⟩
    have e42 : a.tmps[42]? = some (.pointer (some ⟨bc, 6, none⟩)) := by rw [ha]; exact (putSel_off rfl).trans rfl
    replace ha := Aside0.mk ha
    have be := Aside0.mk Q_BK122
    have bd := Aside0.mk Q_BK129
    have HB := Aside0.mk Q_HB
    have b9 : w'.cell? ⟨bc, 0, none⟩ = some (.string ((rd_T55 bb ba).f0)) := (blk_cell bd.out 0).trans rfl
    have b8 : w'.cell? ⟨bc, 1, none⟩ = some (.int .u64 ((rd_T55 bb ba).f1)) := (blk_cell bd.out 1).trans rfl
    have b7 : w'.cell? ⟨bc, 2, none⟩ = some (.int .u64 ((rd_T55 bb ba).f2)) := (blk_cell bd.out 2).trans rfl
    have b6 : w'.cell? ⟨bc, 3, none⟩ = some (.slice bh ((rd_T55 bb ba).f3).length bg) := (blk_cell bd.out 3).trans rfl
    have b5 : w'.cell? ⟨bc, 4, none⟩ = some (.int .u64 ((rd_T55 bb ba).f4)) := (blk_cell bd.out 4).trans rfl
    have b4 : w'.cell? ⟨bc, 5, none⟩ = some (.int .u64 ((rd_T55 bb ba).f5)) := (blk_cell bd.out 5).trans rfl
    have b3 : w'.cell? ⟨bc, 6, none⟩ = some (.int .u64 ((rd_T55 bb ba).f6)) := (blk_cell bd.out 6).trans rfl
    refine value_ (w1 := w') (v := .int .u64 ((rd_T55 bb ba).f6)) (by rfl) rfl ?_ ?_
    ·go_simp
     (try simp only [i64_w])
     try rfl
    refine hK.out _ _ ⟨bl, (by rw [ha.out]; exact putSel_upk 6 hb_ rfl rfl rfl), Q_BK122, Q_BK129, Q_HB, fun h0_ => absurd ((hoff 18 (by kernel_rfl)).symm.trans h0_) (by decide)⟩
   refine steps_cons ?_ ?_
   ·rintro b a w' ⟨bl, ha, Q_BK122, Q_BK129, Q_HB, Q_HO133⟩ hb_ hon hoff
    refine ⟨_, rfl, fun K hK => ?_⟩
    have e44 : a.tmps[44]? = some (.pointer (some ⟨bc, 3, none⟩)) := by rw [ha]; exact (putSel_off rfl).trans rfl
    replace ha := Aside0.mk ha
    have be := Aside0.mk Q_BK122
    have bd := Aside0.mk Q_BK129
    have HB := Aside0.mk Q_HB
    have b9 : w'.cell? ⟨bc, 0, none⟩ = some (.string ((rd_T55 bb ba).f0)) := (blk_cell bd.out 0).trans rfl
    have b8 : w'.cell? ⟨bc, 1, none⟩ = some (.int .u64 ((rd_T55 bb ba).f1)) := (blk_cell bd.out 1).trans rfl
    have b7 : w'.cell? ⟨bc, 2, none⟩ = some (.int .u64 ((rd_T55 bb ba).f2)) := (blk_cell bd.out 2).trans rfl
    have b6 : w'.cell? ⟨bc, 3, none⟩ = some (.slice bh ((rd_T55 bb ba).f3).length bg) := (blk_cell bd.out 3).trans rfl
    have b5 : w'.cell? ⟨bc, 4, none⟩ = some (.int .u64 ((rd_T55 bb ba).f4)) := (blk_cell bd.out 4).trans rfl
    have b4 : w'.cell? ⟨bc, 5, none⟩ = some (.int .u64 ((rd_T55 bb ba).f5)) := (blk_cell bd.out 5).trans rfl
    have b3 : w'.cell? ⟨bc, 6, none⟩ = some (.int .u64 ((rd_T55 bb ba).f6)) := (blk_cell bd.out 6).trans rfl
    refine value_ (w1 := w') (v := .slice bh ((rd_T55 bb ba).f3).length bg) (by rfl) rfl ?_ ?_
    ·go_simp
     (try simp only [i64_w])
     try rfl
    refine hK.out _ _ ⟨bl, (by rw [ha.out]; exact putSel_upk 7 hb_ rfl rfl rfl), Q_BK122, Q_BK129, Q_HB, fun h0_ => absurd ((hoff 18 (by kernel_rfl)).symm.trans h0_) (by decide)⟩
   refine steps_cons ?_ ?_
   ·rintro b a w' ⟨bl, ha, Q_BK122, Q_BK129, Q_HB, Q_HO133⟩ hb_ hon hoff
    refine ⟨_, rfl, fun K hK => ?_⟩
    have e45 : a.tmps[45]? = some (.slice bh ((rd_T55 bb ba).f3).length bg) := by rw [ha]; exact putSel_on (e := (15, 45, .slice bh ((rd_T55 bb ba).f3).length bg)) 7 rfl rfl (hon 15 (by kernel_rfl)) rfl
    replace ha := Aside0.mk ha
    have be := Aside0.mk Q_BK122
    have bd := Aside0.mk Q_BK129
    have HB := Aside0.mk Q_HB
    refine value_ (w1 := w') (v := .int .i64 (((rd_T55 bb ba).f3).length : Int)) (by rfl) rfl ?_ ?_
    ·go_simp
     (try simp only [i64_w])
     try rfl
    refine hK.out _ _ ⟨bl, (by rw [ha.out]; exact putSel_upk 8 hb_ rfl rfl rfl), Q_BK122, Q_BK129, Q_HB, fun h0_ => absurd ((hoff 18 (by kernel_rfl)).symm.trans h0_) (by decide)⟩
   refine steps_cons ?_ ?_
   ·rintro b a w' ⟨bl, ha, Q_BK122, Q_BK129, Q_HB, Q_HO133⟩ hb_ hon hoff
    refine ⟨_, rfl, fun K hK => ?_⟩
    have e46 : a.tmps[46]? = some (.int .i64 (((rd_T55 bb ba).f3).length : Int)) := by rw [ha]; exact putSel_on (e := (16, 46, .int .i64 (((rd_T55 bb ba).f3).length : Int))) 8 rfl rfl (hon 16 (by kernel_rfl)) rfl
    replace ha := Aside0.mk ha
    have be := Aside0.mk Q_BK122
    have bd := Aside0.mk Q_BK129
    have HB := Aside0.mk Q_HB
    refine value_ (w1 := w') (v := .int .u64 (IntKind.u64.wrap ((((rd_T55 bb ba).f3).length : Int)))) (by rfl) rfl ?_ ?_
    ·go_simp
     (try simp only [i64_w])
     try rfl
    refine hK.out _ _ ⟨bl, (by rw [ha.out]; exact putSel_upk 9 hb_ rfl rfl rfl), Q_BK122, Q_BK129, Q_HB, fun h0_ => absurd ((hoff 18 (by kernel_rfl)).symm.trans h0_) (by decide)⟩
   refine steps_cons ?_ ?_
   ·rintro b a w' ⟨bl, ha, Q_BK122, Q_BK129, Q_HB, Q_HO133⟩ hb_ hon hoff
    refine ⟨_, rfl, fun K hK => ?_⟩
    have e35 : a.tmps[35]? = some (.int .u64 ((rd_T55 bb ba).f1)) := by rw [ha]; exact putSel_on (e := (5, 35, .int .u64 ((rd_T55 bb ba).f1))) 2 rfl rfl (hon 5 (by kernel_rfl)) rfl
    have e37 : a.tmps[37]? = some (.int .u64 ((rd_T55 bb ba).f2)) := by rw [ha]; exact putSel_on (e := (7, 37, .int .u64 ((rd_T55 bb ba).f2))) 3 rfl rfl (hon 7 (by kernel_rfl)) rfl
    have e39 : a.tmps[39]? = some (.int .u64 ((rd_T55 bb ba).f4)) := by rw [ha]; exact putSel_on (e := (9, 39, .int .u64 ((rd_T55 bb ba).f4))) 4 rfl rfl (hon 9 (by kernel_rfl)) rfl
    have e41 : a.tmps[41]? = some (.int .u64 ((rd_T55 bb ba).f5)) := by rw [ha]; exact putSel_on (e := (11, 41, .int .u64 ((rd_T55 bb ba).f5))) 5 rfl rfl (hon 11 (by kernel_rfl)) rfl
    have e43 : a.tmps[43]? = some (.int .u64 ((rd_T55 bb ba).f6)) := by rw [ha]; exact putSel_on (e := (13, 43, .int .u64 ((rd_T55 bb ba).f6))) 6 rfl rfl (hon 13 (by kernel_rfl)) rfl
    have e47 : a.tmps[47]? = some (.int .u64 (IntKind.u64.wrap ((((rd_T55 bb ba).f3).length : Int)))) := by rw [ha]; exact putSel_on (e := (17, 47, .int .u64 (IntKind.u64.wrap ((((rd_T55 bb ba).f3).length : Int))))) 9 rfl rfl (hon 17 (by kernel_rfl)) rfl
    replace ha := Aside0.mk ha
    have be := Aside0.mk Q_BK122
    have bd := Aside0.mk Q_BK129
    have HB := Aside0.mk Q_HB
    refine Kd.R_lit_step (Kd.int .u64) _ 22 ?hg (N := 48) ?hd (xs := ([(rd_T55 bb ba).f1, (rd_T55 bb ba).f2, (rd_T55 bb ba).f4, (rd_T55 bb ba).f5, (rd_T55 bb ba).f6, IntKind.u64.wrap ((((rd_T55 bb ba).f3).length : Int))] : List Int)) (inner := [.int .u64 ((rd_T55 bb ba).f1), .int .u64 ((rd_T55 bb ba).f2), .int .u64 ((rd_T55 bb ba).f4), .int .u64 ((rd_T55 bb ba).f5), .int .u64 ((rd_T55 bb ba).f6), .int .u64 (IntKind.u64.wrap ((((rd_T55 bb ba).f3).length : Int)))]) (ok := fun _ => True) (okp := fun _ => True) ?hr ?hp (fun _ hk => hk) trivial (Below.refl _ _) (Nat.le_refl _) (by simp) ?_; (case hd => rfl); (case hg => rfl); (case hr => first | (go_simp; done) | (go_simp; rfl)); (case hp => exact (Reps.one (show Kd.M (Kd.int .u64) _ _ _ ((rd_T55 bb ba).f1) [.int .u64 ((rd_T55 bb ba).f1)] from rfl) (Reps.one (show Kd.M (Kd.int .u64) _ _ _ ((rd_T55 bb ba).f2) [.int .u64 ((rd_T55 bb ba).f2)] from rfl) (Reps.one (show Kd.M (Kd.int .u64) _ _ _ ((rd_T55 bb ba).f4) [.int .u64 ((rd_T55 bb ba).f4)] from rfl) (Reps.one (show Kd.M (Kd.int .u64) _ _ _ ((rd_T55 bb ba).f5) [.int .u64 ((rd_T55 bb ba).f5)] from rfl) (Reps.one (show Kd.M (Kd.int .u64) _ _ _ ((rd_T55 bb ba).f6) [.int .u64 ((rd_T55 bb ba).f6)] from rfl) (Reps.one (show Kd.M (Kd.int .u64) _ _ _ (IntKind.u64.wrap ((((rd_T55 bb ba).f3).length : Int))) [.int .u64 (IntKind.u64.wrap ((((rd_T55 bb ba).f3).length : Int)))] from rfl) (Reps.none _ _))))))))
    intro bl w26 dc hb hg_ hnew_
    clear hg_ hnew_
    (first | rw [← gg.out] at dc | (simp only [Int.reduceToNat] at dc; rw [← gg.out] at dc))
    have bq := Aside0.mk (Kd.R_lower dc (below_size zx7_0))
    replace be := Aside0.mk (blk_below (g := bf) (o := .cells #[.int .u64 bj, .int .u64 bi, .slice (some br) bb.length bo] 25 (0, 0)) zx7_1 hb)
    replace bd := Aside0.mk (blk_below (g := bc) (o := .cells #[.string ((rd_T55 bb ba).f0), .int .u64 ((rd_T55 bb ba).f1), .int .u64 ((rd_T55 bb ba).f2), .slice bh ((rd_T55 bb ba).f3).length bg, .int .u64 ((rd_T55 bb ba).f4), .int .u64 ((rd_T55 bb ba).f5), .int .u64 ((rd_T55 bb ba).f6)] 55 (0, 0)) zx7_3 hb)
    replace HB := Aside0.mk (below_step zx7_0 hb)
    clear hb dc
    refine hK.out _ _ ⟨bl, (by rw [ha.out]; exact putSel_upk 10 hb_ rfl rfl rfl), zx7_1, zx7_3, zx7_0, fun _ => (by (with_reducible repeat (first | apply Kd.R_alloc | apply Kd.R_drewN | apply Kd.R_drew)); exact bq.out)⟩
   refine steps_cons ?_ ?_
   ·rintro b a w' ⟨bl, ha, Q_BK122, Q_BK129, Q_HB, Q_HO133⟩ hb_ hon hoff
    refine ⟨_, rfl, fun K hK => ?_⟩
    have e48 : a.tmps[48]? = some (bl) := by rw [ha]; exact putSel_on (e := (18, 48, bl)) 10 rfl rfl (hon 18 (by kernel_rfl)) rfl
    replace ha := Aside0.mk ha
    have be := Aside0.mk Q_BK122
    have bd := Aside0.mk Q_BK129
    have HB := Aside0.mk Q_HB
    have bq := Aside0.mk (Q_HO133 (hon 18 (by kernel_rfl)))
    obtain ⟨gF, gu, gt⟩ := Kd.R_slice bq.out
    (first | subst gt | (injection gt with f1_ f2_ f3_; have f4_ := f1_.symm; have f5_ := f3_.symm; clear f1_ f2_ f3_; subst f4_; subst f5_))
    refine goes_ Tryd.func23 (by kernel_rfl) rfl #[.slice gF b1.length gu] (by rfl) rfl rfl (by first | (simp only [List.map_toArray, List.map_cons, List.map_nil, Act.eval, Array.getD_eq_getD_getElem?, Option.getD_some, e48]; done) | (simp only [List.map_toArray, List.map_cons, List.map_nil, Act.eval, Array.getD_eq_getD_getElem?, Option.getD_some, e48]; rfl)) ?_
    with_reducible refine (mark_numbers.calls _ _ b1 bm _ ?side1 ?side2 A18.out).mono ?_
    (case side1 => repeat (first | exact (Kd.R_reads' bq.out).2.2 | (with_reducible refine Kd.C_alloc ?_ _) | (with_reducible refine Kd.C_drewN ?_ _) | (with_reducible refine Kd.C_drew ?_)))
    (case side2 => exact (Kd.R_reads' bq.out).2.1)
    rintro e w31 ⟨rfl, hb⟩
    refine ⟨_, rfl, ?_⟩
    replace bq := Aside0.mk (Kd.R_below (by (with_reducible repeat (first | apply Kd.R_alloc | apply Kd.R_drewN | apply Kd.R_drew)); exact bq.out) hb)
    replace be := Aside0.mk (blk_below (g := bf) (o := .cells #[.int .u64 bj, .int .u64 bi, .slice (some br) bb.length bo] 25 (0, 0)) zx7_1 hb)
    replace bd := Aside0.mk (blk_below (g := bc) (o := .cells #[.string ((rd_T55 bb ba).f0), .int .u64 ((rd_T55 bb ba).f1), .int .u64 ((rd_T55 bb ba).f2), .slice bh ((rd_T55 bb ba).f3).length bg, .int .u64 ((rd_T55 bb ba).f4), .int .u64 ((rd_T55 bb ba).f5), .int .u64 ((rd_T55 bb ba).f6)] 55 (0, 0)) zx7_3 hb)
    replace HB := Aside0.mk (below_step zx7_0 hb)
    (try clear hb)
    (try clear hb2)
    (try clear hk)
    (try clear hi)
    refine hK.out _ _ ⟨.slice gF b1.length gu, (by rw [ha.out]; exact putSel_upk 11 hb_ rfl rfl rfl), zx7_1, zx7_3, zx7_0, fun _ => (by (with_reducible repeat (first | apply Kd.R_alloc | apply Kd.R_drewN | apply Kd.R_drew)); exact bq.out)⟩
   refine steps_cons ?_ ?_
   ·rintro b a w' ⟨bl, ha, Q_BK122, Q_BK129, Q_HB, Q_HO133⟩ hb_ hon hoff
    refine ⟨_, rfl, fun K hK => ?_⟩
    have e33 : a.tmps[33]? = some (.string bn) := by rw [ha]; exact putSel_on (e := (3, 33, .string bn)) 1 rfl rfl (hon 3 (by kernel_rfl)) rfl
    have e49 : a.tmps[49]? = some (.string bm) := by rw [ha]; exact putSel_on (e := (19, 49, .string bm)) 11 rfl rfl (hon 19 (by kernel_rfl)) rfl
    replace ha := Aside0.mk ha
    have be := Aside0.mk Q_BK122
    have bd := Aside0.mk Q_BK129
    have HB := Aside0.mk Q_HB
    have bq := Aside0.mk (Q_HO133 (hon 18 (by kernel_rfl)))
    refine value_ (w1 := w') (v := .string (bn ++ bm)) (by rfl) rfl ?_ ?_
    ·go_simp
     (try simp only [i64_w])
     try rfl
    refine hK.out _ _ ⟨bl, (by rw [ha.out]; exact putSel_upk 12 hb_ rfl rfl rfl), Q_BK122, Q_BK129, Q_HB, Q_HO133⟩
   refine steps_cons ?_ ?_
   ·rintro b a w' ⟨bl, ha, Q_BK122, Q_BK129, Q_HB, Q_HO133⟩ hb_ hon hoff
    refine ⟨_, rfl, fun K hK => ?_⟩
    have e30 : a.tmps[30]? = some (.string bp) := by rw [ha]; exact (putSel_off rfl).trans rfl
    have e50 : a.tmps[50]? = some (.string (bn ++ bm)) := by rw [ha]; exact putSel_on (e := (20, 50, .string (bn ++ bm))) 12 rfl rfl (hon 20 (by kernel_rfl)) rfl
    replace ha := Aside0.mk ha
    have be := Aside0.mk Q_BK122
    have bd := Aside0.mk Q_BK129
    have HB := Aside0.mk Q_HB
    have bq := Aside0.mk (Q_HO133 (hon 18 (by kernel_rfl)))
    refine value_ (w1 := w') (v := .string (bp ++ (bn ++ bm))) (by rfl) rfl ?_ ?_
    ·go_simp
     (try simp only [i64_w])
     try rfl
    refine hK.out _ _ ⟨bl, (by rw [ha.out]; exact putSel_upk 13 hb_ rfl rfl rfl), Q_BK122, Q_BK129, Q_HB, Q_HO133⟩
   refine steps_cons ?_ ?_
   ·rintro b a w' ⟨bl, ha, Q_BK122, Q_BK129, Q_HB, Q_HO133⟩ hb_ hon hoff
    refine ⟨_, rfl, fun K hK => ?_⟩
    have e51 : a.tmps[51]? = some (.string (bp ++ (bn ++ bm))) := by rw [ha]; exact putSel_on (e := (21, 51, .string (bp ++ (bn ++ bm)))) 13 rfl rfl (hon 21 (by kernel_rfl)) rfl
    replace ha := Aside0.mk ha
    have be := Aside0.mk Q_BK122
    have bd := Aside0.mk Q_BK129
    have HB := Aside0.mk Q_HB
    have bq := Aside0.mk (Q_HO133 (hon 18 (by kernel_rfl)))
    refine value_ (w1 := w') (v := .string (bp ++ (bn ++ bm))) (by rfl) rfl ?_ ?_
    ·go_simp
     (try simp only [i64_w])
     try rfl
    refine hK.out _ _ ⟨bl, (by rw [ha.out]; exact putSel_upk 14 hb_ rfl rfl rfl), Q_BK122, Q_BK129, Q_HB, Q_HO133⟩
   exact steps_nil
  rintro b a w31 hall ⟨bl, ha, Q_BK122, Q_BK129, Q_HB, Q_HO133⟩
  clear be bd HB
  have gs := hall 2 (by kernel_rfl)
  have gr := hall 3 (by kernel_rfl)
  have gq := hall 5 (by kernel_rfl)
  have gp := hall 7 (by kernel_rfl)
  have go := hall 9 (by kernel_rfl)
  have d9 := hall 11 (by kernel_rfl)
  have d8 := hall 13 (by kernel_rfl)
  have d7 := hall 15 (by kernel_rfl)
  have d6 := hall 16 (by kernel_rfl)
  have d5 := hall 17 (by kernel_rfl)
  have dr := hall 18 (by kernel_rfl)
  have d4 := hall 19 (by kernel_rfl)
  have d3 := hall 20 (by kernel_rfl)
  have d2 := hall 21 (by kernel_rfl)
  have d1 := hall 22 (by kernel_rfl)
  subst ha
  simp only [putSel, gs, gr, gq, gp, go, d9, d8, d7, d6, d5, dr, d4, d3, d2, d1, if_true, Act.put, List.setIfInBounds_toArray, List.set_cons_zero, List.set_cons_succ]
  have be := Aside0.mk Q_BK122
  clear Q_BK122
  have bd := Aside0.mk Q_BK129
  clear Q_BK129
  have HB := Aside0.mk Q_HB
  clear Q_HB
  have bq := Aside0.mk (Q_HO133 dr)
  clear Q_HO133
  clear hall gs gr gq gp go d9 d8 d7 d6 d5 dr d4 d3 d2 d1
  obtain ⟨dQ, dP, dO, dN, dM, dL, dK, dC, dB, dA, dz, dy, dx, dw⟩ := cx7_bc7 bd.out
  try go_wp2
  go_loopg [4, 7, 57] k1 (fun kq v4 v7 v57 w' => ∃ (bA : ByteArray) (bL : Int) (bk : Int), v4 = .string bA ∧ v7 = .int .u64 bL ∧ v57 = .int .i64 bk ∧ Aside0 (mark_Put.l1 kq bA bL bb (bb.length : Int) ba ((rd_T55 bb ba).f3) (((rd_T55 bb ba).f3).length : Int) bk = some (r1, r2)) ∧ Aside0 (kq ≤ k1) ∧ Aside0 (w'.heap[bf]? = some (.cells #[.int .u64 bj, .int .u64 bi, (.slice (some br) bb.length bo)] 25 (0, 0))) ∧ Aside0 (w'.heap[bc]? = some (.cells #[.string ((rd_T55 bb ba).f0), .int .u64 ((rd_T55 bb ba).f1), .int .u64 ((rd_T55 bb ba).f2), (.slice bh ((rd_T55 bb ba).f3).length bg), .int .u64 ((rd_T55 bb ba).f4), .int .u64 ((rd_T55 bb ba).f5), .int .u64 ((rd_T55 bb ba).f6)] 55 (0, 0))) ∧ Aside0 (Below w.heap.size w w'))
  case atStart => exact ⟨(bp ++ (bn ++ bm)), ((rd_T55 bb ba).f2), (0), zx7_6, zx7_6, zx7_6, H', ⟨Nat.le_refl _⟩, ⟨by (with_reducible repeat (first | refine blk_drewN ?_ _ | refine blk_drew ?_ | refine blk_alloc ?_ _)); exact be.out⟩, ⟨by (with_reducible repeat (first | refine blk_drewN ?_ _ | refine blk_drew ?_ | refine blk_alloc ?_ _)); exact bd.out⟩, ⟨by repeat (first | (with_reducible first | exact HB.out | apply below_alloc | apply pw_below_drewN | apply below_drew1 | refine below_set ?_ bu.out | refine below_set ?_ bP.out) | exact HB.out)⟩⟩
  case round =>
   clear H'
   (try clear c1); (try clear p1); (try clear q1); (try clear hx1); (try clear c2); (try clear p2); (try clear c3); (try clear c4); (try clear c5); (try clear c6); (try clear c11); (try clear c12); (try clear p12); (try clear q12); (try clear ho); (try clear c14); (try clear gb); (try clear c15); (try clear gD); (try clear c16); (try clear gC); (try clear c19); (try clear gB); (try clear gA); (try clear gz); (try clear c20); (try clear gy); (try clear gx); (try clear ga); (try clear c22); (try clear c23); (try clear c24); (try clear bY); (try clear bX); (try clear bW); (try clear dX); (try clear dW); (try clear dV); (try clear dU); (try clear dT); (try clear dS); (try clear dR); (try clear dQ); (try clear dP); (try clear dO); (try clear dN); (try clear dM); (try clear dL); (try clear dK); (try clear dq); (try clear dp); (try clear dn); (try clear dm); (try clear dl); (try clear dk); (try clear bV); (try clear bU); (try clear bS); (try clear dJ); (try clear dI); (try clear dH); (try clear dG); (try clear dF); (try clear dE); (try clear dD); (try clear dC); (try clear dB); (try clear dA); (try clear dz); (try clear dy); (try clear dx); (try clear dw); (try clear dj); (try clear di); (try clear dh); (try clear dg); (try clear df); (try clear de); (try clear bI); (try clear bH); (try clear bG); (try clear bE); (try clear bD); (try clear bC); (try clear bB); (try clear dv); (try clear p2); (try clear du)
   obtain ⟨bA, bL, bk, rfl, rfl, rfl, HA, HK2, be, bd, HB⟩ := hrel
   cases gk with
   | zero => exact absurd HA.out (by simp [mark_Put.l1])
   | succ k2 => ?_
   have H := HA.out
   clear HA
   simp only [mark_Put.l1] at H
   by_cases c33 : bk < (((rd_T55 bb ba).f3).length : Int)
   case neg =>
    rw [if_neg c33] at H
    have gv : decide (bk < (((rd_T55 bb ba).f3).length : Int)) = false := decide_eq_false c33
    clear c33
    have H' := Aside0.mk H
    clear H
    go_wp2
    go_roundg k2
    case measure => have := HK1.out; have := HK2.out; omega
    case rel => exact ⟨(bA), (wrap64 (ba + 1)), zx7_6, zx7_6, H', ⟨by have := HK1.out; have := HK2.out; omega⟩, ⟨by (with_reducible repeat (first | refine blk_drewN ?_ _ | refine blk_drew ?_ | refine blk_alloc ?_ _)); exact be.out⟩, ⟨by repeat (first | (with_reducible first | exact HB.out | apply below_alloc | apply pw_below_drewN | apply below_drew1 | refine below_set ?_ bu.out | refine below_set ?_ bP.out) | exact HB.out)⟩⟩
   rw [if_pos c33] at H
   have gv : decide (bk < (((rd_T55 bb ba).f3).length : Int)) = true := decide_eq_true c33
   clear c33
   by_cases c34 : 0 ≤ bk
   case neg =>
    rw [if_neg c34] at H
    exact absurd H (by simp)
   rw [if_pos c34] at H
   have hj : decide (0 ≤ bk) = true := decide_eq_true c34
   clear c34
   by_cases c35 : bk < (((rd_T55 bb ba).f3).length : Int)
   case neg =>
    rw [if_neg c35] at H
    exact absurd H (by simp)
   rw [if_pos c35] at H
   have hh : decide (bk < (((rd_T55 bb ba).f3).length : Int)) = true := decide_eq_true c35
   clear c35
   obtain ⟨gj, bM⟩ : ∃ y_ : List Int, y_ = (([IntKind.u64.wrap ((rd ((rd_T55 bb ba).f3) bk) - bL)] : List Int)) := ⟨_, rfl⟩
   replace H : ((mark_numbers.f gj).bind fun bx => (if bA.size + bx.size ≤ 9223372036854775807 then (mark_Put.l1 k2 (bA ++ bx) (rd ((rd_T55 bb ba).f3) bk) bb (bb.length : Int) ba ((rd_T55 bb ba).f3) (((rd_T55 bb ba).f3).length : Int) (wrap64 (bk + 1))) else (none))) = some (r1, r2) := by first | (rw [bM]; with_reducible exact H) | (have H2_ := (Option.bind_some _ _).symm.trans H; rw [bM]; with_reducible exact H2_) | (have H2_ := (Option.bind_some _ _).symm.trans H; with_reducible exact H2_) | with_reducible exact H | (rw [bM]; exact H) | exact H
   have gf := Aside0.mk bM
   clear bM
   replace H := Option.bind_eq_some_iff.mp H
   obtain ⟨bx, gG, H⟩ := H
   replace H : (if bA.size + bx.size ≤ 9223372036854775807 then (mark_Put.l1 k2 (bA ++ bx) (rd ((rd_T55 bb ba).f3) bk) bb (bb.length : Int) ba ((rd_T55 bb ba).f3) (((rd_T55 bb ba).f3).length : Int) (wrap64 (bk + 1))) else (none)) = some (r1, r2) := H
   have A36 := Aside0.mk gG
   clear gG
   by_cases c37 : bA.size + bx.size ≤ 9223372036854775807
   case neg =>
    rw [if_neg c37] at H
    exact absurd H (by simp)
   rw [if_pos c37] at H
   have hf := eq_true c37
   have he : decide (bA.size + bx.size ≤ 9223372036854775807) = true := decide_eq_true c37
   try have hc : (9223372036854775807 < bA.size + bx.size) = False := eq_false (Nat.not_lt.2 c37)
   clear c37
   have H' := Aside0.mk H
   clear H
   have gn : 0 ≤ (bk : Int) := of_decide_eq_true (by first | (with_reducible assumption) | assumption)
   have gm : bk < (((rd_T55 bb ba).f3).length : Int) := of_decide_eq_true (by first | (with_reducible assumption) | assumption)
   obtain ⟨gc, gS, bK⟩ := Kd.at_int dY.out bk gn gm
   cases gS
   replace bK := (HB.out.cell (World.block_lt_of_cell? w _ bK)).trans bK
   replace gn := eq_true gn
   replace gm := eq_true gm
   go_wp2_with (first | ((with_reducible refine gate_dst (N := 65) rfl ?_); refine Kd.R_lit (Kd.int .u64) _ 22 ?hg (N := 65) ?hd (xs := ([IntKind.u64.wrap ((rd ((rd_T55 bb ba).f3) bk) - bL)] : List Int)) (inner := [.int .u64 (IntKind.u64.wrap ((rd ((rd_T55 bb ba).f3) bk) - bL))]) (ok := fun _ => True) (okp := fun _ => True) ?hr ?hp (fun _ hk => hk) trivial (Below.refl _ _) (Nat.le_refl _) (by simp) ?_; (case hd => rfl); (case hg => rfl); (case hr => first | (go_simp; done) | (go_simp; rfl)); (case hp => exact (Reps.one (show Kd.M (Kd.int .u64) _ _ _ (IntKind.u64.wrap ((rd ((rd_T55 bb ba).f3) bk) - bL)) [.int .u64 (IntKind.u64.wrap ((rd ((rd_T55 bb ba).f3) bk) - bL))] from rfl) (Reps.none _ _))); intro hm w38 db hb hg_ hnew_; clear hg_ hnew_; (first | rw [← gf.out] at db | (simp only [Int.reduceToNat] at db; rw [← gf.out] at db)); have bZ := Aside0.mk (Kd.R_lower db (below_size zx7_0)); replace be := Aside0.mk (blk_below (g := bf) (o := .cells #[.int .u64 bj, .int .u64 bi, .slice (some br) bb.length bo] 25 (0, 0)) zx7_1 hb); replace bd := Aside0.mk (blk_below (g := bc) (o := .cells #[.string ((rd_T55 bb ba).f0), .int .u64 ((rd_T55 bb ba).f1), .int .u64 ((rd_T55 bb ba).f2), .slice (some gc) ((rd_T55 bb ba).f3).length bg, .int .u64 ((rd_T55 bb ba).f4), .int .u64 ((rd_T55 bb ba).f5), .int .u64 ((rd_T55 bb ba).f6)] 55 (0, 0)) zx7_3 hb); replace HB := Aside0.mk (below_step zx7_0 hb); clear hb db; obtain ⟨gW, gU, gQ⟩ := Kd.R_slice bZ.out; subst gQ) | ((with_reducible refine gate_callee (f := 23) rfl ?_); refine goesL_ (some 66) rfl rfl Tryd.func23 (by kernel_rfl) rfl #[.slice gW gj.length gU] rfl zx7_5 ?_; (with_reducible refine (mark_numbers.calls _ _ gj bx _ ?side1 ?side2 A36.out).mono ?_); (case side1 => repeat (first | exact (Kd.R_reads' bZ.out).2.2 | (with_reducible refine Kd.C_alloc ?_ _) | (with_reducible refine Kd.C_drewN ?_ _) | (with_reducible refine Kd.C_drew ?_))); (case side2 => exact (Kd.R_reads' bZ.out).2.1); rintro e w41 ⟨rfl, hb⟩; refine ⟨_, rfl, ?_⟩;  have n1_ := Aside0.mk (blk_below (g := bf) (o := .cells #[.int .u64 bj, .int .u64 bi, .slice (some br) bb.length bo] 25 (0, 0)) zx7_1 hb); have n2_ := Aside0.mk (blk_below (g := bc) (o := .cells #[.string ((rd_T55 bb ba).f0), .int .u64 ((rd_T55 bb ba).f1), .int .u64 ((rd_T55 bb ba).f2), .slice (some gc) ((rd_T55 bb ba).f3).length bg, .int .u64 ((rd_T55 bb ba).f4), .int .u64 ((rd_T55 bb ba).f5), .int .u64 ((rd_T55 bb ba).f6)] 55 (0, 0)) zx7_3 hb); have n3_ := Aside0.mk (below_step zx7_0 hb); (try clear bZ); clear be; clear bd; clear HB; have be := n1_; have bd := n2_; have HB := n3_; clear n1_ n2_ n3_; (try clear hb); (try clear hb2); (try clear hk); (try clear hi)))
   go_roundg k2
   case measure => have := HK1.out; have := HK2.out; omega
   case rel => exact ⟨(bA ++ bx), (rd ((rd_T55 bb ba).f3) bk), (wrap64 (bk + 1)), zx7_6, zx7_6, zx7_6, H', ⟨by have := HK1.out; have := HK2.out; omega⟩, ⟨by (with_reducible repeat (first | refine blk_drewN ?_ _ | refine blk_drew ?_ | refine blk_alloc ?_ _)); exact be.out⟩, ⟨by (with_reducible repeat (first | refine blk_drewN ?_ _ | refine blk_drew ?_ | refine blk_alloc ?_ _)); exact bd.out⟩, ⟨by repeat (first | (with_reducible first | exact HB.out | apply below_alloc | apply pw_below_drewN | apply below_drew1 | refine below_set ?_ bu.out | refine below_set ?_ bP.out) | exact HB.out)⟩⟩
end Go.Proofs.YtmbigoeldobaiaaDoor.XMrk
end
section
/- What the functions of the translation answer, each as a plain Lean function, and that the code comes to it; for a law: its row. Conditions: none but those that each theorem names. Written by a program of this session (wip/xp). -/
namespace Go.Proofs.YtmbigoeldobaiaaDoor.XMrk
open Go.RowKit Go.Proofs.YtmbigoeldobaiaaDoorW.PrintWords Go.Proofs.YtmbigoeldobaiaaDoorW.PrintLast Go.Proofs.YtmbigoeldobaiaaDoorW.PrintMore
attribute [local go_sem] max2_int min2_int max_two min_two max_three min_three max_four min_four   -- for this text's walks alone
theorem cx11_bc3 {w : World} {g : Nat} {t : TypeId} {x0 x1 x2 : Value} (h : w.heap[g]? = some (.cells #[x0, x1, x2] t (0, 0))) : w.cell? ⟨g, 0, none⟩ = some x0 ∧ w.cell? ⟨g, 1, none⟩ = some x1 ∧ w.cell? ⟨g, 2, none⟩ = some x2 ∧ w.frozen? ⟨g, 0, none⟩ = false ∧ w.frozen? ⟨g, 1, none⟩ = false ∧ w.frozen? ⟨g, 2, none⟩ = false :=
 ⟨(blk_cell h 0).trans rfl, (blk_cell h 1).trans rfl, (blk_cell h 2).trans rfl, blk_frozen h 0, blk_frozen h 1, blk_frozen h 2⟩
theorem zx11_6 {p : Prop} (h : p := by (with_reducible repeat (first | apply Kd.S_alloc | apply Kd.S_drewN | apply Kd.S_drew)); exact ba.out) : p := h
theorem zx11_2 {p : Prop} (h : p := by (with_reducible repeat (first | refine blk_drewN ?_ _ | refine blk_drew ?_ | refine blk_alloc ?_ _)); exact bd.out) : p := h
theorem zx11_5 {p : Prop} (h : p := by (with_reducible repeat (first | refine blk_drewN ?_ _ | refine blk_drew ?_ | refine blk_alloc ?_ _)); exact be.out) : p := h
theorem zx11_9 {p : Prop} (h : p := by repeat (first | (with_reducible first | exact HB.out | apply below_alloc | apply pw_below_drewN | apply below_drew1) | exact HB.out)) : p := h
theorem zx11_4 {p : Prop} (h : p := by (try simp only [List.map_toArray, List.map_cons, List.map_nil]); first | done | rfl | (simp only [List.length_drop, List.length_take]; rfl)) : p := h
theorem zx11_7 {p : Prop} (h : p := by repeat (first | (with_reducible first | exact HB.out | apply below_alloc | apply pw_below_drewN | apply below_drew1 | refine below_set ?_ bz.out) | exact HB.out)) : p := h
theorem zx11_8 {p : Prop} (h : p := by repeat (first | (with_reducible first | exact HB.out | apply below_alloc | apply pw_below_drewN | apply below_drew1 | refine below_set ?_ (IsS63.ge bc.out) | refine below_set ?_ bz.out) | exact HB.out)) : p := h
theorem zx11_1 {p : Prop} (h : p := by repeat (first | (with_reducible first | exact HB.out | apply below_alloc | apply pw_below_drewN | apply below_drew1 | refine below_set ?_ (IsS63.ge bc.out) | refine below_set ?_ bz.out | refine below_set ?_ bB.out) | exact HB.out)) : p := h
theorem zx11_3 {p : Prop} (h : p := by repeat (first | (with_reducible first | exact bc.out | apply IsS63.alloc | apply IsS63.drewN | apply IsS63.drew | apply IsS63.set_0 | apply IsS63.set_1 | refine IsS63.far ?_ bg.out _ | refine IsS63.far ?_ bh.out _) | exact bc.out)) : p := h
theorem zx11_0 {p : Prop} (h : p := by (with_reducible repeat (first | refine blk_drewN ?_ _ | refine blk_drew ?_ | refine blk_alloc ?_ _)); refine blk_put (cs := #[.int .u64 0, .int .u64 0, .slice none 0 0]) ?_ 2 _ rfl; (with_reducible repeat (first | refine blk_drewN ?_ _ | refine blk_drew ?_ | refine blk_alloc ?_ _)); refine blk_put (cs := #[.int .u64 0, .int .u64 0, .slice none 0 0]) ?_ 1 _ rfl; (with_reducible repeat (first | refine blk_drewN ?_ _ | refine blk_drew ?_ | refine blk_alloc ?_ _)); refine blk_put (cs := #[.int .u64 0, .int .u64 0, .slice none 0 0]) ?_ 0 _ rfl; (with_reducible repeat (first | refine blk_drewN ?_ _ | refine blk_drew ?_ | refine blk_alloc ?_ _)); exact bd.out) : p := h
set_option linter.unusedVariables false
set_option linter.unusedSimpArgs false

/-! ### mark_Take: function 13 -/
def mark_Take.l0 : Nat → ByteArray → Int → ByteArray → Bool → Int → Int → List (S55) → Option (Int × Int × (List (S55)) × Int)
 | 0, _, _, _, _, _, _, _ => none
 | k + 1, x0, x6, b7, bK, bE, bD, bC => if x6 > 0 then (if bK = true then ((mark_Put.f k bE bD bC).bind fun dJ => (some (0, 0, ([] : List (S55)), 2))) else ((mark_reader_dest.f k b7 bK).bind fun bq => (if bC.length < 1759218604441 then (mark_Take.l0 k x0 (IntKind.u64.wrap (x6 - 1)) bq.2.2.2.2.2.2.2.1 bq.2.2.2.2.2.2.2.2 bE bD (bC ++ [(⟨bq.1, bq.2.1, bq.2.2.1, bq.2.2.2.1, bq.2.2.2.2.1, bq.2.2.2.2.2.1, bq.2.2.2.2.2.2.1⟩ : S55)])) else (none)))) else ((mark_Put.f k bE bD bC).bind fun dg => (if bK = true then (some (0, 0, ([] : List (S55)), 2)) else (if dg.2 = 0 then (if dg.1.toList = x0.toList then (some (bE, bD, bC, 0)) else (some (0, 0, ([] : List (S55)), 2))) else (some (0, 0, ([] : List (S55)), 2)))))
def mark_Take.f (k : Nat) (a0 : ByteArray) : Option (Int × Int × (List (S55)) × Int) := (mark_reader_number.f k a0 false).bind fun bI => ((mark_reader_number.f k bI.2.1 bI.2.2).bind fun bA => ((mark_reader_number.f k bA.2.1 bA.2.2).bind fun bx => (mark_Take.l0 k a0 bx.1 bx.2.1 bx.2.2 bI.1 bA.1 ([] : List (S55)))))
def mark_Take.T6 : Bool × List (List Nat × List Nat) := (true, [([], []), ([0], [0]), ([], []), ([2], [2]), ([3], [3]), ([1, 4, 3], [1, 4]), ([0, 1, 2, 3, 4, 5], []), ([6, 5, 5, 0, 1, 2, 3, 4, 5], [5, 6])])
def mark_Take.B6 : List Nat := [0, 1, 0, 4, 12, 31, 63, 127]
theorem mark_Take.tab6 : rtab .any (opsOf Tryd.f13 6) = mark_Take.T6 := by kernel_rfl
theorem mark_Take.bits6 : waitsOk mark_Take.T6.2 mark_Take.B6 = true := by kernel_rfl
set_option maxHeartbeats 8000000 in
set_option maxRecDepth 100000 in
theorem mark_Take.calls (k : Nat) (a0 : ByteArray) (r1 : Int) (r2 : Int) (r3 : List (S55)) (r4 : Int) (w : World) (h : mark_Take.f k a0 = some (r1, r2, r3, r4)) :
  Calls Tryd.prog 13 #[.string a0] w fun e w' => ∃ v2_ : Value, e = .returned (.tuple #[.agg #[.int .u64 r1, .int .u64 r2, v2_], .int .i64 r4]) ∧ Kd.S k55 55 w' w.heap.size (fun _ => True) v2_ r3 ∧ Below w.heap.size w w' := by
 have jL := Tryd.underlying25
 have jK := Tryd.underlying63
 have HB := Aside0.mk (Below.refl w.heap.size w)
 have H : ((mark_reader_number.f k a0 false).bind fun bI => ((mark_reader_number.f k bI.2.1 bI.2.2).bind fun bA => ((mark_reader_number.f k bA.2.1 bA.2.2).bind fun bx => (mark_Take.l0 k a0 bx.1 bx.2.1 bx.2.2 bI.1 bA.1 ([] : List (S55)))))) = some (r1, r2, r3, r4) := h
 clear h
 replace H := Option.bind_eq_some_iff.mp H
 obtain ⟨⟨bj, dm, dl⟩, A20, H⟩ := H
 replace H : ((mark_reader_number.f k dm dl).bind fun bA => ((mark_reader_number.f k bA.2.1 bA.2.2).bind fun bx => (mark_Take.l0 k a0 bx.1 bx.2.1 bx.2.2 bj bA.1 ([] : List (S55))))) = some (r1, r2, r3, r4) := H
 have A2 := Aside0.mk A20
 clear A20
 replace H := Option.bind_eq_some_iff.mp H
 obtain ⟨⟨bk, b3, b2⟩, A30, H⟩ := H
 replace H : ((mark_reader_number.f k b3 b2).bind fun bx => (mark_Take.l0 k a0 bx.1 bx.2.1 bx.2.2 bj bk ([] : List (S55)))) = some (r1, r2, r3, r4) := H
 have A3 := Aside0.mk A30
 clear A30
 replace H := Option.bind_eq_some_iff.mp H
 obtain ⟨⟨dk, dj, di⟩, A40, H⟩ := H
 replace H : (mark_Take.l0 k a0 dk dj di bj bk ([] : List (S55))) = some (r1, r2, r3, r4) := H
 have A4 := Aside0.mk A40
 clear A40
 have H' := Aside0.mk H
 clear H
 go_enter Tryd.func13, Tryd.ntmps13
 go_wp2_with (first | ((with_reducible refine gate_dst (N := 2) rfl ?_); refine box_event ?hg (N := 2) ?hd (cs := #[.int .u64 0, .int .u64 0, .slice none 0 0]) (t := 25) ?hr ?_; (case hd => rfl); (case hg => rfl); (case hr => first | (go_simp; done) | (go_simp; rfl)); intro bf hg w5 hbox hb; have bd := Aside0.mk (hbox); have jG := Aside0.mk ((by rw [hg]; exact (below_size zx11_9) : w.heap.size ≤ bf)); have bz := Aside0.mk ((by rw [hg]; exact (below_size zx11_9) : w.heap.size ≤ bf)); replace HB := Aside0.mk (below_step zx11_9 hb); clear hb hbox hg) | ((with_reducible refine gate_dst (N := 11) rfl ?_); refine box_event ?hg (N := 11) ?hd (cs := #[.string a0, .bool false]) (t := 63) ?hr ?_; (case hd => rfl); (case hg => rfl); (case hr => first | (go_simp; done) | (go_simp; rfl)); intro bn hg w6 hbox hb; have jF := Aside0.mk ((by rw [hg]; exact (below_size zx11_7) : w.heap.size ≤ bn)); have jH := Aside0.mk ((by rw [hg]; exact (below_size zx11_7) : w.heap.size ≤ bn)); have bm := Aside0.mk ((by rw [hg]; exact Nat.ne_of_lt (blk_lt (g := bf) (o := .cells #[.int .u64 0, .int .u64 0, .slice none 0 0] 25 (0, 0)) zx11_2) : bf ≠ bn)); have bg := Aside0.mk ((by rw [hg]; exact Nat.ne_of_gt (blk_lt (g := bf) (o := .cells #[.int .u64 0, .int .u64 0, .slice none 0 0] 25 (0, 0)) zx11_2) : bn ≠ bf)); replace bd := Aside0.mk (blk_below (g := bf) (o := .cells #[.int .u64 0, .int .u64 0, .slice none 0 0] 25 (0, 0)) zx11_2 hb); have bc := Aside0.mk ((show IsS63 w w6 bn a0 false from ⟨hbox, (by rw [hg]; exact (below_size zx11_7) : w.heap.size ≤ bn)⟩)); replace HB := Aside0.mk (below_step zx11_7 hb); clear hb hbox hg) | ((with_reducible refine gate_callee (f := 27) rfl ?_); refine goesL_ (some 13) rfl rfl Tryd.func27 (by kernel_rfl) rfl #[.pointer (some ⟨bn, 0, none⟩)] rfl zx11_4 ?_; (with_reducible refine (mark_reader_number.calls k bn a0 false bj dm dl w _ ?side1 ?side2 A2.out).mono ?_); (case side1 => repeat (first | (with_reducible first | exact bc.out | apply IsS63.alloc | apply IsS63.drewN | apply IsS63.drew | apply IsS63.set_0 | apply IsS63.set_1 | refine IsS63.far ?_ bg.out _) | exact bc.out)); (case side2 => repeat (first | (with_reducible first | exact HB.out | apply below_alloc | apply pw_below_drewN | apply below_drew1 | refine below_set ?_ (IsS63.ge bc.out) | refine below_set ?_ bz.out) | exact HB.out)); rintro e w7 ⟨rfl, hi, hb, hk⟩; refine ⟨_, rfl, ?_⟩; replace bd := Aside0.mk (KeepBut.blk hk (g' := bf) (o := .cells #[.int .u64 0, .int .u64 0, .slice none 0 0] 25 (0, 0)) zx11_2 bm.out (by simp)); replace HB := Aside0.mk (hb); replace bc := Aside0.mk (hi); (try clear hb); (try clear hb2); (try clear hk); (try clear hi)) | ((with_reducible refine gate_callee (f := 27) rfl ?_); refine goesL_ (some 15) rfl rfl Tryd.func27 (by kernel_rfl) rfl #[.pointer (some ⟨bn, 0, none⟩)] rfl zx11_4 ?_; (with_reducible refine (mark_reader_number.calls k bn dm dl bk b3 b2 w _ ?side1 ?side2 A3.out).mono ?_); (case side1 => repeat (first | (with_reducible first | exact bc.out | apply IsS63.alloc | apply IsS63.drewN | apply IsS63.drew | apply IsS63.set_0 | apply IsS63.set_1 | refine IsS63.far ?_ bg.out _) | exact bc.out)); (case side2 => repeat (first | (with_reducible first | exact HB.out | apply below_alloc | apply pw_below_drewN | apply below_drew1 | refine below_set ?_ (IsS63.ge bc.out) | refine below_set ?_ bz.out) | exact HB.out)); rintro e w8 ⟨rfl, hi, hb, hk⟩; refine ⟨_, rfl, ?_⟩; replace bd := Aside0.mk (KeepBut.blk hk (g' := bf) (o := .cells #[.int .u64 0, .int .u64 0, .slice none 0 0] 25 (0, 0)) zx11_2 bm.out (by simp)); replace HB := Aside0.mk (hb); replace bc := Aside0.mk (hi); (try clear hb); (try clear hb2); (try clear hk); (try clear hi)) | ((with_reducible refine gate_dst (N := 5) rfl ?_); refine box_event ?hg (N := 5) ?hd (cs := #[.int .u64 0, .int .u64 0, .slice none 0 0]) (t := 25) ?hr ?_; (case hd => rfl); (case hg => rfl); (case hr => first | (go_simp; done) | (go_simp; rfl)); intro bi hg w9 hbox hb; have be := Aside0.mk (hbox); have jE := Aside0.mk ((by rw [hg]; exact (below_size zx11_8) : w.heap.size ≤ bi)); have bB := Aside0.mk ((by rw [hg]; exact (below_size zx11_8) : w.heap.size ≤ bi)); replace HB := Aside0.mk (below_step zx11_8 hb); have bl := Aside0.mk ((by rw [hg]; exact Nat.ne_of_lt (blk_lt (g := bf) (o := .cells #[.int .u64 0, .int .u64 0, .slice none 0 0] 25 (0, 0)) zx11_2) : bf ≠ bi)); have br := Aside0.mk ((by rw [hg]; exact Nat.ne_of_gt (blk_lt (g := bf) (o := .cells #[.int .u64 0, .int .u64 0, .slice none 0 0] 25 (0, 0)) zx11_2) : bi ≠ bf)); replace bd := Aside0.mk (blk_below (g := bf) (o := .cells #[.int .u64 0, .int .u64 0, .slice none 0 0] 25 (0, 0)) zx11_2 hb); have bh := Aside0.mk ((by rw [hg]; exact Nat.ne_of_lt (IsS63.lt (show IsS63 w _ bn b3 b2 from by repeat (first | (with_reducible first | exact bc.out | apply IsS63.alloc | apply IsS63.drewN | apply IsS63.drew | apply IsS63.set_0 | apply IsS63.set_1 | refine IsS63.far ?_ bg.out _) | exact bc.out))) : bn ≠ bi)); have bo := Aside0.mk ((by rw [hg]; exact Nat.ne_of_gt (IsS63.lt (show IsS63 w _ bn b3 b2 from by repeat (first | (with_reducible first | exact bc.out | apply IsS63.alloc | apply IsS63.drewN | apply IsS63.drew | apply IsS63.set_0 | apply IsS63.set_1 | refine IsS63.far ?_ bg.out _) | exact bc.out))) : bi ≠ bn)); replace bc := Aside0.mk (IsS63.below (by repeat (first | (with_reducible first | exact bc.out | apply IsS63.alloc | apply IsS63.drewN | apply IsS63.drew | apply IsS63.set_0 | apply IsS63.set_1 | refine IsS63.far ?_ bg.out _) | exact bc.out)) hb); clear hb hbox hg; have jC := br.out; have jl := bl.out; have jB := bo.out; have jk := bh.out; have df : w9.cell? ⟨bi, 0, none⟩ = some (.int .u64 0) := (blk_cell be.out 0).trans rfl; have de : w9.cell? ⟨bi, 1, none⟩ = some (.int .u64 0) := (blk_cell be.out 1).trans rfl; have dd : w9.cell? ⟨bi, 2, none⟩ = some (.slice none 0 0) := (blk_cell be.out 2).trans rfl; have dc := blk_frozen be.out 0; have db := blk_frozen be.out 1; have da := blk_frozen be.out 2) | ((with_reducible refine gate_callee (f := 27) rfl ?_); refine goesL_ (some 18) rfl rfl Tryd.func27 (by kernel_rfl) rfl #[.pointer (some ⟨bn, 0, none⟩)] rfl zx11_4 ?_; (with_reducible refine (mark_reader_number.calls k bn b3 b2 dk dj di w _ ?side1 ?side2 A4.out).mono ?_); (case side1 => repeat (first | (with_reducible first | exact bc.out | apply IsS63.alloc | apply IsS63.drewN | apply IsS63.drew | apply IsS63.set_0 | apply IsS63.set_1 | refine IsS63.far ?_ bg.out _ | refine IsS63.far ?_ bh.out _) | exact bc.out)); (case side2 => repeat (first | (with_reducible first | exact HB.out | apply below_alloc | apply pw_below_drewN | apply below_drew1 | refine below_set ?_ (IsS63.ge bc.out) | refine below_set ?_ bz.out | refine below_set ?_ bB.out) | exact HB.out)); rintro e w13 ⟨rfl, hi, hb, hk⟩; refine ⟨_, rfl, ?_⟩; replace bd := Aside0.mk (KeepBut.blk hk (g' := bf) (o := .cells #[.int .u64 0, .int .u64 0, .slice none 0 0] 25 (0, 0)) (by (iterate 3 ((with_reducible repeat (first | refine blk_drewN ?_ _ | refine blk_drew ?_ | refine blk_alloc ?_ _)); refine blk_far ?_ bl.out _)); (with_reducible repeat (first | refine blk_drewN ?_ _ | refine blk_drew ?_ | refine blk_alloc ?_ _)); exact bd.out) bm.out (by simp)); replace be := Aside0.mk (KeepBut.blk hk (g' := bi) (o := .cells #[.int .u64 bj, .int .u64 bk, .slice none 0 0] 25 (0, 0)) (by (with_reducible repeat (first | refine blk_drewN ?_ _ | refine blk_drew ?_ | refine blk_alloc ?_ _)); refine blk_put (cs := #[.int .u64 bj, .int .u64 bk, .slice none 0 0]) ?_ 2 _ rfl; (with_reducible repeat (first | refine blk_drewN ?_ _ | refine blk_drew ?_ | refine blk_alloc ?_ _)); refine blk_put (cs := #[.int .u64 bj, .int .u64 0, .slice none 0 0]) ?_ 1 _ rfl; (with_reducible repeat (first | refine blk_drewN ?_ _ | refine blk_drew ?_ | refine blk_alloc ?_ _)); refine blk_put (cs := #[.int .u64 0, .int .u64 0, .slice none 0 0]) ?_ 0 _ rfl; (with_reducible repeat (first | refine blk_drewN ?_ _ | refine blk_drew ?_ | refine blk_alloc ?_ _)); exact be.out) bo.out (by simp)); replace HB := Aside0.mk (hb); replace bc := Aside0.mk (hi); (try clear hb); (try clear hb2); (try clear hk); (try clear hi)))
 go_loopg [6] k (fun kq v6 w' => ∃ (bJ : Int) (bw : ByteArray) (bu : Bool) (bb : List (S55)) (bp : Value), v6 = .int .u64 bJ ∧ Aside0 (mark_Take.l0 kq a0 bJ bw bu bj bk bb = some (r1, r2, r3, r4)) ∧ Aside0 (kq ≤ k) ∧ Aside0 (Kd.S k55 55 w' w.heap.size (fun _ => True) bp bb) ∧ Aside0 (w'.heap[bf]? = some (.cells #[.int .u64 0, .int .u64 0, (.slice none 0 0)] 25 (0, 0))) ∧ Aside0 (w'.heap[bi]? = some (.cells #[.int .u64 bj, .int .u64 bk, bp] 25 (0, 0))) ∧ Aside0 (IsS63 w w' bn bw bu) ∧ Aside0 (Below w.heap.size w w'))
 case atStart => exact ⟨(dk), (dj), (di), (([] : List (S55))), (.slice none 0 0), (by first | rfl | (simp; done) | (simp [*]; done)), H', ⟨Nat.le_refl _⟩, ⟨by first | exact Kd.S_nil _ _ _ _ _ | exact Kd.N_nil _ _ _ _ _ | exact Kd.V_nil _ _ _ _ _ | exact Kd.Q_nil _ _ _ _ _ | exact Kd.R_nil _ _ _ _ _⟩, ⟨by (with_reducible repeat (first | refine blk_drewN ?_ _ | refine blk_drew ?_ | refine blk_alloc ?_ _)); exact bd.out⟩, ⟨by (with_reducible repeat (first | refine blk_drewN ?_ _ | refine blk_drew ?_ | refine blk_alloc ?_ _)); exact be.out⟩, ⟨by repeat (first | (with_reducible first | exact bc.out | apply IsS63.alloc | apply IsS63.drewN | apply IsS63.drew | apply IsS63.set_0 | apply IsS63.set_1 | refine IsS63.far ?_ bg.out _ | refine IsS63.far ?_ bh.out _) | exact bc.out)⟩, ⟨by repeat (first | (with_reducible first | exact HB.out | apply below_alloc | apply pw_below_drewN | apply below_drew1 | refine below_set ?_ (IsS63.ge bc.out) | refine below_set ?_ bz.out | refine below_set ?_ bB.out) | exact HB.out)⟩⟩
 case round =>
  clear H'
  (try clear c1); (try clear c2); (try clear p2); (try clear c10); (try clear c11); (try clear c13); (try clear df); (try clear de); (try clear dd); (try clear dc); (try clear db); (try clear da)
  obtain ⟨bJ, bw, bu, bb, bp, rfl, HA, HK1, ba, bd, be, bc, HB⟩ := hrel
  cases gk with
  | zero => exact absurd HA.out (by simp [mark_Take.l0])
  | succ k1 => ?_
  have H := HA.out
  clear HA
  simp only [mark_Take.l0] at H
  by_cases c14 : bJ > 0
  case neg =>
   rw [if_neg c14] at H
   have dI : decide (0 < bJ) = false := decide_eq_false c14
   clear c14
   replace H := Option.bind_eq_some_iff.mp H
   obtain ⟨⟨bH, bG⟩, dS, H⟩ := H
   replace H : (if bu = true then (some (0, 0, ([] : List (S55)), 2)) else (if bG = 0 then (if bH.toList = a0.toList then (some (bj, bk, bb, 0)) else (some (0, 0, ([] : List (S55)), 2))) else (some (0, 0, ([] : List (S55)), 2)))) = some (r1, r2, r3, r4) := H
   have A35 := Aside0.mk dS
   clear dS
   by_cases c36 : bu = true
   ·subst c36
    have H1 : (some (0, 0, ([] : List (S55)), 2)) = some (r1, r2, r3, r4) := by rw [if_pos rfl] at H; exact H
    clear H
    have H := H1
    clear H1
    simp only [Option.some.injEq, Prod.mk.injEq] at H
    obtain ⟨rfl, rfl, rfl, rfl⟩ := H
    have jx := br.out
    have jg := bl.out
    have jw := bo.out
    have jf := bh.out
    obtain ⟨hA, hz, hy, gy, gx, gw⟩ := cx11_bc3 be.out
    obtain ⟨dO, dA, hT⟩ := Kd.S_slice ba.out
    subst hT
    go_wp2_with (first | ((with_reducible refine gate_callee (f := 11) rfl ?_); refine goesL_ (some 39) rfl rfl Tryd.func11 (by kernel_rfl) rfl #[.agg #[.int .u64 bj, .int .u64 bk, .slice dO bb.length dA]] rfl zx11_4 ?_; (with_reducible refine (mark_Put.calls k1 bj bk _ _ bb bH bG _ ?side1 ?side2 A35.out).mono ?_); (case side1 => repeat (first | exact (Kd.S_reads' ba.out).2.2 | (with_reducible refine Kd.C_alloc ?_ _) | (with_reducible refine Kd.C_drewN ?_ _) | (with_reducible refine Kd.C_drew ?_))); (case side2 => exact (Kd.S_reads' ba.out).2.1); rintro e w41 ⟨rfl, hb⟩; refine ⟨_, rfl, ?_⟩; replace ba := Aside0.mk (Kd.S_below zx11_6 hb); replace bd := Aside0.mk (blk_below (g := bf) (o := .cells #[.int .u64 0, .int .u64 0, .slice none 0 0] 25 (0, 0)) zx11_2 hb); replace be := Aside0.mk (blk_below (g := bi) (o := .cells #[.int .u64 bj, .int .u64 bk, .slice dO bb.length dA] 25 (0, 0)) zx11_5 hb); replace HB := Aside0.mk (below_step zx11_1 hb); replace bc := Aside0.mk (IsS63.below zx11_3 hb); (try clear hb); (try clear hb2); (try clear hk); (try clear hi); obtain ⟨bP, dr⟩ := bc.out; have hx := cellS63_0 bP; have hw := cellS63_1 bP; have gv := blk_frozen bP 0; have gu := blk_frozen bP 1; clear bP dr; have jv := bm.out; have je := bg.out; have hv : w41.cell? ⟨bf, 0, none⟩ = some (.int .u64 0) := (blk_cell bd.out 0).trans rfl; have hu : w41.cell? ⟨bf, 1, none⟩ = some (.int .u64 0) := (blk_cell bd.out 1).trans rfl; have ht : w41.cell? ⟨bf, 2, none⟩ = some (.slice none 0 0) := (blk_cell bd.out 2).trans rfl; have gt := blk_frozen bd.out 0; have gs := blk_frozen bd.out 1; have gr := blk_frozen bd.out 2))
    refine bodyPost_ret (results_ct rfl _ _ bf 25 #[.int .u64 0, .int .u64 0, .slice none 0 0] (0, 0) _ rfl zx11_0 Tryd.underlying25 rfl (by kernel_rfl)) rfl ?_
    exact ⟨_, by first | rfl | (simp [errW_none, errW_some] <;> rfl) | (simp [*, errW_none, errW_some] <;> rfl), by first | exact Kd.S_nil _ _ _ _ _ | exact Kd.N_nil _ _ _ _ _ | exact Kd.V_nil _ _ _ _ _ | exact Kd.Q_nil _ _ _ _ _ | exact Kd.R_nil _ _ _ _ _, by repeat (first | (with_reducible first | exact HB.out | apply below_alloc | apply pw_below_drewN | apply below_drew1 | refine below_set ?_ (IsS63.ge bc.out) | refine below_set ?_ bz.out | refine below_set ?_ bB.out) | exact HB.out)⟩
   replace c36 := Bool.eq_false_iff.mpr c36
   subst c36
   have H1 : (if bG = 0 then (if bH.toList = a0.toList then (some (bj, bk, bb, 0)) else (some (0, 0, ([] : List (S55)), 2))) else (some (0, 0, ([] : List (S55)), 2))) = some (r1, r2, r3, r4) := by rw [if_neg (show ¬ (false = true) by decide)] at H; exact H
   clear H
   have H := H1
   clear H1
   by_cases c45 : bG = 0
   case neg =>
    rw [if_neg c45] at H
    have dH : (bG == 0) = false := beq_eq_false_iff_ne.mpr c45
    have dG : (bG != 0) = true := bne_iff_ne.mpr c45
    simp only [Option.some.injEq, Prod.mk.injEq] at H
    obtain ⟨rfl, rfl, rfl, rfl⟩ := H
    have jo := br.out
    have hX := bl.out
    have jn := bo.out
    have hW := bh.out
    obtain ⟨gS, gR, gQ, d4, d3, d2⟩ := cx11_bc3 be.out
    obtain ⟨dM, dy, hQ⟩ := Kd.S_slice ba.out
    subst hQ
    go_wp2_with (first | ((with_reducible refine gate_callee (f := 11) rfl ?_); refine goesL_ (some 39) rfl rfl Tryd.func11 (by kernel_rfl) rfl #[.agg #[.int .u64 bj, .int .u64 bk, .slice dM bb.length dy]] rfl zx11_4 ?_; (with_reducible refine (mark_Put.calls k1 bj bk _ _ bb bH bG _ ?side1 ?side2 A35.out).mono ?_); (case side1 => repeat (first | exact (Kd.S_reads' ba.out).2.2 | (with_reducible refine Kd.C_alloc ?_ _) | (with_reducible refine Kd.C_drewN ?_ _) | (with_reducible refine Kd.C_drew ?_))); (case side2 => exact (Kd.S_reads' ba.out).2.1); rintro e w68 ⟨rfl, hb⟩; refine ⟨_, rfl, ?_⟩; replace ba := Aside0.mk (Kd.S_below zx11_6 hb); replace bd := Aside0.mk (blk_below (g := bf) (o := .cells #[.int .u64 0, .int .u64 0, .slice none 0 0] 25 (0, 0)) zx11_2 hb); replace be := Aside0.mk (blk_below (g := bi) (o := .cells #[.int .u64 bj, .int .u64 bk, .slice dM bb.length dy] 25 (0, 0)) zx11_5 hb); replace HB := Aside0.mk (below_step zx11_1 hb); replace bc := Aside0.mk (IsS63.below zx11_3 hb); (try clear hb); (try clear hb2); (try clear hk); (try clear hi); obtain ⟨bM, dn⟩ := bc.out; have gP := cellS63_0 bM; have gO := cellS63_1 bM; have d1 := blk_frozen bM 0; have d0 := blk_frozen bM 1; clear bM dn; have jm := bm.out; have hV := bg.out; have gN : w68.cell? ⟨bf, 0, none⟩ = some (.int .u64 0) := (blk_cell bd.out 0).trans rfl; have gM : w68.cell? ⟨bf, 1, none⟩ = some (.int .u64 0) := (blk_cell bd.out 1).trans rfl; have gL : w68.cell? ⟨bf, 2, none⟩ = some (.slice none 0 0) := (blk_cell bd.out 2).trans rfl; have dZ := blk_frozen bd.out 0; have dY := blk_frozen bd.out 1; have dX := blk_frozen bd.out 2))
    refine bodyPost_ret (results_ct rfl _ _ bf 25 #[.int .u64 0, .int .u64 0, .slice none 0 0] (0, 0) _ rfl zx11_0 Tryd.underlying25 rfl (by kernel_rfl)) rfl ?_
    exact ⟨_, by first | rfl | (simp [errW_none, errW_some] <;> rfl) | (simp [*, errW_none, errW_some] <;> rfl), by first | exact Kd.S_nil _ _ _ _ _ | exact Kd.N_nil _ _ _ _ _ | exact Kd.V_nil _ _ _ _ _ | exact Kd.Q_nil _ _ _ _ _ | exact Kd.R_nil _ _ _ _ _, by repeat (first | (with_reducible first | exact HB.out | apply below_alloc | apply pw_below_drewN | apply below_drew1 | refine below_set ?_ (IsS63.ge bc.out) | refine below_set ?_ bz.out | refine below_set ?_ bB.out) | exact HB.out)⟩

   rw [if_pos c45] at H
   have dH : (bG == 0) = true := beq_iff_eq.mpr c45
   have dG : (bG != 0) = false := bne_eq_false_iff_eq.mpr c45
   clear c45
   by_cases c46 : bH.toList = a0.toList
   case neg =>
    rw [if_neg c46] at H
    have dF : (bH.toList == a0.toList) = false := beq_eq_false_iff_ne.mpr c46
    have dE : (bH.toList != a0.toList) = true := bne_iff_ne.mpr c46
    simp only [Option.some.injEq, Prod.mk.injEq] at H
    obtain ⟨rfl, rfl, rfl, rfl⟩ := H
    have jr := br.out
    have ja := bl.out
    have jq := bo.out
    have hZ := bh.out
    obtain ⟨ha, gZ, gY, gc, gb, ga⟩ := cx11_bc3 be.out
    obtain ⟨dN, dz, hR⟩ := Kd.S_slice ba.out
    subst hR
    go_wp2_with (first | ((with_reducible refine gate_callee (f := 11) rfl ?_); refine goesL_ (some 39) rfl rfl Tryd.func11 (by kernel_rfl) rfl #[.agg #[.int .u64 bj, .int .u64 bk, .slice dN bb.length dz]] rfl zx11_4 ?_; (with_reducible refine (mark_Put.calls k1 bj bk _ _ bb bH bG _ ?side1 ?side2 A35.out).mono ?_); (case side1 => repeat (first | exact (Kd.S_reads' ba.out).2.2 | (with_reducible refine Kd.C_alloc ?_ _) | (with_reducible refine Kd.C_drewN ?_ _) | (with_reducible refine Kd.C_drew ?_))); (case side2 => exact (Kd.S_reads' ba.out).2.1); rintro e w60 ⟨rfl, hb⟩; refine ⟨_, rfl, ?_⟩; replace ba := Aside0.mk (Kd.S_below zx11_6 hb); replace bd := Aside0.mk (blk_below (g := bf) (o := .cells #[.int .u64 0, .int .u64 0, .slice none 0 0] 25 (0, 0)) zx11_2 hb); replace be := Aside0.mk (blk_below (g := bi) (o := .cells #[.int .u64 bj, .int .u64 bk, .slice dN bb.length dz] 25 (0, 0)) zx11_5 hb); replace HB := Aside0.mk (below_step zx11_1 hb); replace bc := Aside0.mk (IsS63.below zx11_3 hb); (try clear hb); (try clear hb2); (try clear hk); (try clear hi); obtain ⟨bN, dp⟩ := bc.out; have gX := cellS63_0 bN; have gW := cellS63_1 bN; have d9 := blk_frozen bN 0; have d8 := blk_frozen bN 1; clear bN dp; have jp := bm.out; have hY := bg.out; have gV : w60.cell? ⟨bf, 0, none⟩ = some (.int .u64 0) := (blk_cell bd.out 0).trans rfl; have gU : w60.cell? ⟨bf, 1, none⟩ = some (.int .u64 0) := (blk_cell bd.out 1).trans rfl; have gT : w60.cell? ⟨bf, 2, none⟩ = some (.slice none 0 0) := (blk_cell bd.out 2).trans rfl; have d7 := blk_frozen bd.out 0; have d6 := blk_frozen bd.out 1; have d5 := blk_frozen bd.out 2))
    refine bodyPost_ret (results_ct rfl _ _ bf 25 #[.int .u64 0, .int .u64 0, .slice none 0 0] (0, 0) _ rfl zx11_0 Tryd.underlying25 rfl (by kernel_rfl)) rfl ?_
    exact ⟨_, by first | rfl | (simp [errW_none, errW_some] <;> rfl) | (simp [*, errW_none, errW_some] <;> rfl), by first | exact Kd.S_nil _ _ _ _ _ | exact Kd.N_nil _ _ _ _ _ | exact Kd.V_nil _ _ _ _ _ | exact Kd.Q_nil _ _ _ _ _ | exact Kd.R_nil _ _ _ _ _, by repeat (first | (with_reducible first | exact HB.out | apply below_alloc | apply pw_below_drewN | apply below_drew1 | refine below_set ?_ (IsS63.ge bc.out) | refine below_set ?_ bz.out | refine below_set ?_ bB.out) | exact HB.out)⟩
   rw [if_pos c46] at H
   have dF : (bH.toList == a0.toList) = true := beq_iff_eq.mpr c46
   have dE : (bH.toList != a0.toList) = false := bne_eq_false_iff_eq.mpr c46
   clear c46
   simp only [Option.some.injEq, Prod.mk.injEq] at H
   obtain ⟨rfl, rfl, rfl, rfl⟩ := H
   have ju := br.out
   have jd := bl.out
   have jt := bo.out
   have jc := bh.out
   obtain ⟨hs, hq, hp, gq, gp, go⟩ := cx11_bc3 be.out
   obtain ⟨b5, b4, hS⟩ := Kd.S_slice ba.out
   subst hS
   go_wp2_with (first | ((with_reducible refine gate_callee (f := 11) rfl ?_); refine goesL_ (some 39) rfl rfl Tryd.func11 (by kernel_rfl) rfl #[.agg #[.int .u64 bj, .int .u64 bk, .slice b5 bb.length b4]] rfl zx11_4 ?_; (with_reducible refine (mark_Put.calls k1 bj bk _ _ bb bH bG _ ?side1 ?side2 A35.out).mono ?_); (case side1 => repeat (first | exact (Kd.S_reads' ba.out).2.2 | (with_reducible refine Kd.C_alloc ?_ _) | (with_reducible refine Kd.C_drewN ?_ _) | (with_reducible refine Kd.C_drew ?_))); (case side2 => exact (Kd.S_reads' ba.out).2.1); rintro e w51 ⟨rfl, hb⟩; refine ⟨_, rfl, ?_⟩; replace ba := Aside0.mk (Kd.S_below zx11_6 hb); replace bd := Aside0.mk (blk_below (g := bf) (o := .cells #[.int .u64 0, .int .u64 0, .slice none 0 0] 25 (0, 0)) zx11_2 hb); replace be := Aside0.mk (blk_below (g := bi) (o := .cells #[.int .u64 bj, .int .u64 bk, .slice b5 bb.length b4] 25 (0, 0)) zx11_5 hb); replace HB := Aside0.mk (below_step zx11_1 hb); replace bc := Aside0.mk (IsS63.below zx11_3 hb); (try clear hb); (try clear hb2); (try clear hk); (try clear hi); obtain ⟨bO, dq⟩ := bc.out; have hn := cellS63_0 bO; have hm := cellS63_1 bO; have gn := blk_frozen bO 0; have gm := blk_frozen bO 1; clear bO dq; have hl : w51.cell? ⟨bi, 0, none⟩ = some (.int .u64 bj) := (blk_cell be.out 0).trans rfl; have hj : w51.cell? ⟨bi, 1, none⟩ = some (.int .u64 bk) := (blk_cell be.out 1).trans rfl; have hh : w51.cell? ⟨bi, 2, none⟩ = some (.slice b5 bb.length b4) := (blk_cell be.out 2).trans rfl; have gl := blk_frozen be.out 0; have gj := blk_frozen be.out 1; have gi := blk_frozen be.out 2; have js := bm.out; have jb := bg.out; have hf : w51.cell? ⟨bf, 0, none⟩ = some (.int .u64 0) := (blk_cell bd.out 0).trans rfl; have he : w51.cell? ⟨bf, 1, none⟩ = some (.int .u64 0) := (blk_cell bd.out 1).trans rfl; have hc : w51.cell? ⟨bf, 2, none⟩ = some (.slice none 0 0) := (blk_cell bd.out 2).trans rfl; have gh := blk_frozen bd.out 0; have gg := blk_frozen bd.out 1; have gf := blk_frozen bd.out 2))
   refine bodyPost_ret (results_ct rfl _ _ bf 25 #[.int .u64 bj, .int .u64 bk, .slice b5 bb.length b4] (0, 0) _ rfl (by (with_reducible repeat (first | refine blk_drewN ?_ _ | refine blk_drew ?_ | refine blk_alloc ?_ _)); refine blk_put (cs := #[.int .u64 bj, .int .u64 bk, .slice none 0 0]) ?_ 2 _ rfl; (with_reducible repeat (first | refine blk_drewN ?_ _ | refine blk_drew ?_ | refine blk_alloc ?_ _)); refine blk_put (cs := #[.int .u64 bj, .int .u64 0, .slice none 0 0]) ?_ 1 _ rfl; (with_reducible repeat (first | refine blk_drewN ?_ _ | refine blk_drew ?_ | refine blk_alloc ?_ _)); refine blk_put (cs := #[.int .u64 0, .int .u64 0, .slice none 0 0]) ?_ 0 _ rfl; (with_reducible repeat (first | refine blk_drewN ?_ _ | refine blk_drew ?_ | refine blk_alloc ?_ _)); exact bd.out) Tryd.underlying25 rfl (by kernel_rfl)) rfl ?_
   exact ⟨_, by first | rfl | (simp [errW_none, errW_some] <;> rfl) | (simp [*, errW_none, errW_some] <;> rfl), by (with_reducible repeat (first | apply Kd.S_alloc | apply Kd.S_drewN | apply Kd.S_drew)); exact Kd.S_mono (Kd.S_far (p := ⟨bf, 2, none⟩) (Kd.S_far (p := ⟨bf, 1, none⟩) (Kd.S_far (p := ⟨bf, 0, none⟩) (Kd.S_types ba.out bd.out (by decide)) (fun _ hk => hk.2) (.int .u64 bj)) (fun _ hk => hk.2) (.int .u64 bk)) (fun _ hk => hk.2) (.slice b5 bb.length b4)) (fun _ hk => trivial), by repeat (first | (with_reducible first | exact HB.out | apply below_alloc | apply pw_below_drewN | apply below_drew1 | refine below_set ?_ (IsS63.ge bc.out) | refine below_set ?_ bz.out | refine below_set ?_ bB.out) | exact HB.out)⟩
  rw [if_pos c14] at H
  have dI : decide (0 < bJ) = true := decide_eq_true c14
  clear c14
  by_cases c15 : bu = true
  ·subst c15
   have H1 : ((mark_Put.f k1 bj bk bb).bind fun dJ => (some (0, 0, ([] : List (S55)), 2))) = some (r1, r2, r3, r4) := by rw [if_pos rfl] at H; exact H
   clear H
   have H := H1
   clear H1
   replace H := Option.bind_eq_some_iff.mp H
   obtain ⟨⟨hP, hO⟩, dU, H⟩ := H
   replace H : (some (0, 0, ([] : List (S55)), 2)) = some (r1, r2, r3, r4) := H
   have A16 := Aside0.mk dU
   clear dU
   simp only [Option.some.injEq, Prod.mk.injEq] at H
   obtain ⟨rfl, rfl, rfl, rfl⟩ := H
   obtain ⟨bS, dv⟩ := bc.out
   have hN := cellS63_0 bS
   have hM := cellS63_1 bS
   have gK := blk_frozen bS 0
   have gJ := blk_frozen bS 1
   clear bS dv
   have jA := br.out
   have jj := bl.out
   have jz := bo.out
   have ji := bh.out
   obtain ⟨hL, hJ, hI, gI, gH, gG⟩ := cx11_bc3 be.out
   obtain ⟨dR, dD, hU⟩ := Kd.S_slice ba.out
   subst hU
   go_wp2_with (first | ((with_reducible refine gate_callee (f := 11) rfl ?_); refine goesL_ (some 39) rfl rfl Tryd.func11 (by kernel_rfl) rfl #[.agg #[.int .u64 bj, .int .u64 bk, .slice dR bb.length dD]] rfl zx11_4 ?_; (with_reducible refine (mark_Put.calls k1 bj bk _ _ bb hP hO _ ?side1 ?side2 A16.out).mono ?_); (case side1 => repeat (first | exact (Kd.S_reads' ba.out).2.2 | (with_reducible refine Kd.C_alloc ?_ _) | (with_reducible refine Kd.C_drewN ?_ _) | (with_reducible refine Kd.C_drew ?_))); (case side2 => exact (Kd.S_reads' ba.out).2.1); rintro e w22 ⟨rfl, hb⟩; refine ⟨_, rfl, ?_⟩; replace ba := Aside0.mk (Kd.S_below zx11_6 hb); replace bd := Aside0.mk (blk_below (g := bf) (o := .cells #[.int .u64 0, .int .u64 0, .slice none 0 0] 25 (0, 0)) zx11_2 hb); replace be := Aside0.mk (blk_below (g := bi) (o := .cells #[.int .u64 bj, .int .u64 bk, .slice dR bb.length dD] 25 (0, 0)) zx11_5 hb); replace HB := Aside0.mk (below_step zx11_1 hb); replace bc := Aside0.mk (IsS63.below zx11_3 hb); (try clear hb); (try clear hb2); (try clear hk); (try clear hi); obtain ⟨bR, du⟩ := bc.out; have hH := cellS63_0 bR; have hG := cellS63_1 bR; have gF := blk_frozen bR 0; have gE := blk_frozen bR 1; clear bR du; have jy := bm.out; have jh := bg.out; have hF : w22.cell? ⟨bf, 0, none⟩ = some (.int .u64 0) := (blk_cell bd.out 0).trans rfl; have hE : w22.cell? ⟨bf, 1, none⟩ = some (.int .u64 0) := (blk_cell bd.out 1).trans rfl; have hD : w22.cell? ⟨bf, 2, none⟩ = some (.slice none 0 0) := (blk_cell bd.out 2).trans rfl; have gD := blk_frozen bd.out 0; have gC := blk_frozen bd.out 1; have gB := blk_frozen bd.out 2))
   refine bodyPost_ret (results_ct rfl _ _ bf 25 #[.int .u64 0, .int .u64 0, .slice none 0 0] (0, 0) _ rfl zx11_0 Tryd.underlying25 rfl (by kernel_rfl)) rfl ?_
   exact ⟨_, by first | rfl | (simp [errW_none, errW_some] <;> rfl) | (simp [*, errW_none, errW_some] <;> rfl), by first | exact Kd.S_nil _ _ _ _ _ | exact Kd.N_nil _ _ _ _ _ | exact Kd.V_nil _ _ _ _ _ | exact Kd.Q_nil _ _ _ _ _ | exact Kd.R_nil _ _ _ _ _, by repeat (first | (with_reducible first | exact HB.out | apply below_alloc | apply pw_below_drewN | apply below_drew1 | refine below_set ?_ (IsS63.ge bc.out) | refine below_set ?_ bz.out | refine below_set ?_ bB.out) | exact HB.out)⟩
  replace c15 := Bool.eq_false_iff.mpr c15
  subst c15
  have H1 : ((mark_reader_dest.f k1 bw false).bind fun bq => (if bb.length < 1759218604441 then (mark_Take.l0 k1 a0 (IntKind.u64.wrap (bJ - 1)) bq.2.2.2.2.2.2.2.1 bq.2.2.2.2.2.2.2.2 bj bk (bb ++ [(⟨bq.1, bq.2.1, bq.2.2.1, bq.2.2.2.1, bq.2.2.2.2.1, bq.2.2.2.2.2.1, bq.2.2.2.2.2.2.1⟩ : S55)])) else (none))) = some (r1, r2, r3, r4) := by rw [if_neg (show ¬ (false = true) by decide)] at H; exact H
  clear H
  have H := H1
  clear H1
  replace H := Option.bind_eq_some_iff.mp H
  obtain ⟨⟨b1, b0, bZ, bU, bY, bX, bW, b9, b8⟩, dT, H⟩ := H
  replace H : (if bb.length < 1759218604441 then (mark_Take.l0 k1 a0 (IntKind.u64.wrap (bJ - 1)) b9 b8 bj bk (bb ++ [(⟨b1, b0, bZ, bU, bY, bX, bW⟩ : S55)])) else (none)) = some (r1, r2, r3, r4) := H
  have A26 := Aside0.mk dT
  clear dT
  by_cases c27 : bb.length < 1759218604441
  case neg =>
   rw [if_neg c27] at H
   exact absurd H (by simp)
  rw [if_pos c27] at H
  have dL := Aside0.mk c27
  clear c27
  obtain ⟨b6, bL⟩ : ∃ y_ : List (S55), y_ = (bb ++ [(⟨b1, b0, bZ, bU, bY, bX, bW⟩ : S55)]) := ⟨_, rfl⟩
  replace H : (mark_Take.l0 k1 a0 (IntKind.u64.wrap (bJ - 1)) b9 b8 bj bk b6) = some (r1, r2, r3, r4) := by first | (rw [bL]; with_reducible exact H) | (have H2_ := (Option.bind_some _ _).symm.trans H; rw [bL]; with_reducible exact H2_) | (have H2_ := (Option.bind_some _ _).symm.trans H; with_reducible exact H2_) | with_reducible exact H | (rw [bL]; exact H) | exact H
  have dK := Aside0.mk bL
  clear bL
  have H' := Aside0.mk H
  clear H
  obtain ⟨bQ, dt⟩ := bc.out
  have hC := cellS63_0 bQ
  have hB := cellS63_1 bQ
  have gA := blk_frozen bQ 0
  have gz := blk_frozen bQ 1
  clear bQ dt
  try go_wp2
  replace ba := Aside0.mk (Kd.S_drew ba.out)
  replace bd := Aside0.mk (blk_drew bd.out)
  replace be := Aside0.mk (blk_drew be.out)
  replace bc := Aside0.mk (IsS63.drew bc.out)
  replace HB := Aside0.mk (below_drew1 HB.out)
  refine start_ (n := 8) (S := fun w' => w'.cell? ⟨bi, 0, none⟩ = some (.int .u64 bj) ∧ w'.cell? ⟨bi, 1, none⟩ = some (.int .u64 bk) ∧ w'.cell? ⟨bi, 2, none⟩ = some (bp)) (ds := [7]) #[Ff,Ff,Ff,Ff,Ff,Ff,Ff,Ff] (by kernel_rfl) rfl rfl ⟨(blk_cell be.out 0).trans rfl, (blk_cell be.out 1).trans rfl, (blk_cell be.out 2).trans rfl⟩ (fun hHeld => ?_); refine with_tabW mark_Take.tab6 mark_Take.bits6 (fun HT_ HW_ => ?_)
  generalize wr.drew = w29 at ba bd be bc HB hHeld ⊢
  refine pp_ 0 (some 30) HT_.out ?_
  refine pp_ 2 (some 32) HT_.out ?_
  refine take_ (i := 1) (N := some 31) (v := ?_) (a' := ?_) #[Tt,Tt,Tt,Ff,Ff,Ff,Ff,Ff] rfl rfl (take_ofW HT_.out HW_.out (by kernel_rfl)) (fun _ _ _ h => h) (Or.inl ⟨by rfl, ?_⟩) hHeld ?_ ?_
  rotate_left
  ·rintro w' ⟨s0, s1, s2⟩
   go_simp
   with_reducible rfl
  rotate_left
  ·simp only [Act.put, List.setIfInBounds_toArray, List.set_cons_zero, List.set_cons_succ, i64_w, i32_w]
   rfl
  refine one_ (i := 3) (N := some 33) #[Tt,Tt,Tt,Tt,Ff,Ff,Ff,Ff] rfl rfl (one_of HT_.out (by kernel_rfl)) (by decide) (fun K hK => ?_)
  refine goes_ Tryd.func28 (by kernel_rfl) rfl #[.pointer (some ⟨bn, 0, none⟩)] (by rfl) rfl rfl zx11_4 ?_
  with_reducible refine (mark_reader_dest.calls k1 bn bw false b1 b0 bZ bU bY bX bW b9 b8 w _ ?side1 ?side2 A26.out).mono ?_
  (case side1 => repeat (first | (with_reducible first | exact bc.out | apply IsS63.alloc | apply IsS63.drewN | apply IsS63.drew | apply IsS63.set_0 | apply IsS63.set_1 | refine IsS63.far ?_ bg.out _ | refine IsS63.far ?_ bh.out _) | exact bc.out))
  (case side2 => repeat (first | (with_reducible first | exact HB.out | apply below_alloc | apply pw_below_drewN | apply below_drew1 | refine below_set ?_ (IsS63.ge bc.out) | refine below_set ?_ bz.out | refine below_set ?_ bB.out) | exact HB.out))
  rintro e w30 ⟨jJ, rfl, ho0, hi, hb, hk⟩
  refine ⟨_, rfl, ?_⟩
  replace ba := Aside0.mk (Kd.S_mono (Kd.S_told (Kd.S_oldK (IsS63.apartS (show IsS63 w _ bn bw false from by repeat (first | (with_reducible first | exact bc.out | apply IsS63.alloc | apply IsS63.drewN | apply IsS63.drew | apply IsS63.set_0 | apply IsS63.set_1 | refine IsS63.far ?_ bg.out _ | refine IsS63.far ?_ bh.out _) | exact bc.out)) zx11_6 (by decide)) hk) (Kd.R_base ho0)) (fun _ h_ => h_.1))
  replace bd := Aside0.mk (KeepBut.blk hk (g' := bf) (o := .cells #[.int .u64 0, .int .u64 0, .slice none 0 0] 25 (0, 0)) zx11_2 bm.out (by simp))
  replace be := Aside0.mk (KeepBut.blk hk (g' := bi) (o := .cells #[.int .u64 bj, .int .u64 bk, bp] 25 (0, 0)) zx11_5 bo.out (by simp))
  have bV := Aside0.mk (Kd.R_lower ho0 (below_size zx11_1))
  replace HB := Aside0.mk (hb)
  replace bc := Aside0.mk (hi)
  (try clear hb)
  (try clear hb2)
  (try clear hk)
  (try clear hi)
  (try clear ho0)
  obtain ⟨dQ, dC, dx⟩ := Kd.R_slice bV.out
  (first | subst dx | (injection dx with f1_ f2_ f3_; have f4_ := f1_.symm; have f5_ := f3_.symm; clear f1_ f2_ f3_; subst f4_; subst f5_))
  refine hK.out _ _ ⟨(blk_cell be.out 0).trans rfl, (blk_cell be.out 1).trans rfl, (blk_cell be.out 2).trans rfl⟩ (fun hHeld => ?_)
  clear hK K
  refine na_ 33 ?_
  refine one_ (i := 4) (N := some 34) #[Tt,Tt,Tt,Tt,Tt,Ff,Ff,Ff] rfl rfl (one_of HT_.out (by kernel_rfl)) (by decide) (fun K hK => ?_)
  refine value_ (w1 := ?_) (v := ?_) (by rfl) rfl ?_ ?_
  rotate_left 2
  ·go_simp
   constructor
   ·rfl
   ·rfl
  refine hK.out _ _ ⟨(blk_cell (blk_alloc be.out _) 0).trans rfl, (blk_cell (blk_alloc be.out _) 1).trans rfl, (blk_cell (blk_alloc be.out _) 2).trans rfl⟩ (fun hHeld => ?_)
  clear hK K
  refine na_ 34 ?_
  refine one_ (i := 5) (N := some 35) #[Tt,Tt,Tt,Tt,Tt,Tt,Ff,Ff] rfl rfl (one_of HT_.out (by kernel_rfl)) (by decide) (fun K hK => ?_)
  refine Kd.S_append_step k55 (w0 := w) w.heap.size (by rfl) (.tmp 31) (.tmp 34) 23 55 (.agg #[(.string ⟨#[]⟩), (.int .u64 0), (.int .u64 0), (.slice none 0 0), (.int .u64 0), (.int .u64 0), (.int .u64 0)]) 80 rfl Tryd.underlying23 info55 rfl (by decide) (by omega) bp bb (⟨b1, b0, bZ, bU, bY, bX, bW⟩ : S55) [.string b1, .int .u64 b0, .int .u64 bZ, .slice dQ bU.length dC, .int .u64 bY, .int .u64 bX, .int .u64 bW] (fun _ => True) (fun k_ => some k_ = (.slice dQ bU.length dC : Value).ownBlock) rfl rfl ?aP (fun k_ hk_ => ((Kd.R_mono (ok' := fun k_ => ((fun _ => True)) k_ ∧ some k_ ≠ (bp : Value).ownBlock) (Kd.R_apart' (bV.out) (Kd.S_typed ba.out) (by decide)) (fun k_ hk => ⟨trivial, hk.2⟩))).1 k_ hk_.symm) ?aF ?aO ?aB ?aS ?aL ?_
  (case aP => exact k55_mkM _ _ _ (⟨b1, b0, bZ, bU, bY, bX, bW⟩ : S55) (Kd.R_mono (Kd.R_tight rfl (Kd.R_mono (ok' := fun k_ => ((fun _ => True)) k_ ∧ some k_ ≠ (bp : Value).ownBlock) (Kd.R_apart' (bV.out) (Kd.S_typed ba.out) (by decide)) (fun k_ hk => ⟨trivial, hk.2⟩))) (fun _ h_ => h_)))
  (case aB => exact zx11_1)
  (case aF => exact (fun _ _ => trivial))
  (case aO => exact (by (with_reducible repeat (first | apply Kd.S_alloc | apply Kd.S_drewN | apply Kd.S_drew)); exact Kd.S_mono ba.out (fun k_ hk => ⟨trivial, fun e_ => hk.2 e_⟩)))
  (case aS => exact (below_size zx11_1))
  (case aL => have := dL.out; omega)
  intro jI w31 ho hb hg hat
  rw [← dK.out] at ho
  have n0_ := Aside0.mk (blk_grown (g := bf) (o := .cells #[.int .u64 0, .int .u64 0, .slice none 0 0] 25 (0, 0)) zx11_2 hg (Kd.S_ne ba.out bd.out (by decide)))
  have n1_ := Aside0.mk (blk_grown (g := bi) (o := .cells #[.int .u64 bj, .int .u64 bk, bp] 25 (0, 0)) zx11_5 hg (Kd.S_ne ba.out be.out (by decide)))
  have n2_ := Aside0.mk (IsS63.grown zx11_3 hg (IsS63.own_neS bc.out ba.out (by decide)))
  have n3_ := Aside0.mk (hb)
  have n4_ := Aside0.mk (ho)
  clear bd
  clear be
  clear bc
  clear HB
  clear ba
  (try clear bV)
  have bd := n0_
  have be := n1_
  have bc := n2_
  have HB := n3_
  have dh := n4_
  clear n0_ n1_ n2_ n3_ n4_
  clear ho hb hg hat
  obtain ⟨dP, dB, dw⟩ := Kd.S_slice dh.out
  (first | subst dw | (injection dw with f1_ f2_ f3_; have f4_ := f1_.symm; have f5_ := f3_.symm; clear f1_ f2_ f3_; subst f4_; subst f5_))
  refine hK.out _ _ ⟨(blk_cell be.out 0).trans rfl, (blk_cell be.out 1).trans rfl, (blk_cell be.out 2).trans rfl⟩ (fun hHeld => ?_)
  clear hK K
  refine na_ 35 ?_
  refine pp_ 6 (some 36) HT_.out ?_
  refine last_ (i := 7) (N := none) #[Tt,Tt,Tt,Tt,Tt,Tt,Tt,Tt] rfl rfl (one_of HT_.out (by kernel_rfl)) (by decide) (fun K hK => ?_)
  have jM : w31.cell? ⟨bi, 2, none⟩ = some (bp) := (blk_cell be.out 2).trans rfl
  have jD := blk_frozen be.out 2
  have dV := bl.out
  have dW := br.out
  refine skip_ (w1 := ?_) (by rfl) rfl ?_ ?_
  rotate_left
  ·go_simp
   rfl
  refine hK.out _ _ ?_
  clear hK K
  refine done_ (done_of HT_.out (by kernel_rfl)) ?_
  try go_wp2
  go_roundg k1
  case measure => have := HK1.out; omega
  case rel => exact ⟨(IntKind.u64.wrap (bJ - 1)), (b9), (b8), (b6), (.slice dP b6.length dB), (by first | rfl | (simp; done) | (simp [*]; done)), H', ⟨by have := HK1.out; omega⟩, ⟨by (with_reducible repeat (first | apply Kd.S_alloc | apply Kd.S_drewN | apply Kd.S_drew)); exact Kd.S_mono (Kd.S_far (p := ⟨bi, 2, none⟩) (Kd.S_types dh.out be.out (by decide)) (fun _ hk => hk.2) (.slice dP b6.length dB)) (fun _ hk => trivial)⟩, ⟨by (with_reducible repeat (first | refine blk_drewN ?_ _ | refine blk_drew ?_ | refine blk_alloc ?_ _)); refine blk_far ?_ bl.out _; (with_reducible repeat (first | refine blk_drewN ?_ _ | refine blk_drew ?_ | refine blk_alloc ?_ _)); exact bd.out⟩, ⟨by (with_reducible repeat (first | refine blk_drewN ?_ _ | refine blk_drew ?_ | refine blk_alloc ?_ _)); refine blk_put (cs := #[.int .u64 bj, .int .u64 bk, bp]) ?_ 2 _ rfl; (with_reducible repeat (first | refine blk_drewN ?_ _ | refine blk_drew ?_ | refine blk_alloc ?_ _)); exact be.out⟩, ⟨by repeat (first | (with_reducible first | exact bc.out | apply IsS63.alloc | apply IsS63.drewN | apply IsS63.drew | apply IsS63.set_0 | apply IsS63.set_1 | refine IsS63.far ?_ bg.out _ | refine IsS63.far ?_ bh.out _) | exact bc.out)⟩, ⟨by repeat (first | (with_reducible first | exact HB.out | apply below_alloc | apply pw_below_drewN | apply below_drew1 | refine below_set ?_ (IsS63.ge bc.out) | refine below_set ?_ bz.out | refine below_set ?_ bB.out) | exact HB.out)⟩⟩
end Go.Proofs.YtmbigoeldobaiaaDoor.XMrk
end
