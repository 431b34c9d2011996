/- postroomlaw10.does of the given program, where what it tells is the document's: an act. Conditions: those of the operations, and that both agree. -/
import Derived.Test.YthhmpjapnkilcaaDoorGAs
import Derived.Test.YthhmpjapnkilcaaDoorGDoneL
import Derived.Test.YthhmpjapnkilcaaDoorGEvict
import Derived.Test.YthhmpjapnkilcaaDoorGLeave
import Derived.Test.YthhmpjapnkilcaaDoorXLdgP1
import Derived.Test.YthhmpjapnkilcaaDoorXLdgP4
import Derived.Test.YthhmpjapnkilcaaDoorXLdgP2
import Derived.Test.YthhmpjapnkilcaaDoorXLdgP3
namespace Go.Proofs.YthhmpjapnkilcaaDoor.XLdg
open Go Go.RowKit Go.Proofs.YthhmpjapnkilcaaDoorW.PrintWords Go.Proofs.YthhmpjapnkilcaaDoorW.PrintLast Go.Proofs.YthhmpjapnkilcaaDoorW.PrintMore Go.Proofs.YthhmpjapnkilcaaDoor.Num
set_option linter.unusedVariables false
set_option linter.unusedSimpArgs false
abbrev zl3 : Array Value := #[.int .u64 0, .int .u64 0, .slice none 0 0]
theorem below_stepX {B : Nat} {w W W2 : World} (h : Below B w W) (hB : B ≤ w.heap.size) (k : Below W.heap.size W W2) : Below B w W2 := below_then h (Nat.le_trans hB h.size) k
theorem drew_heap (w : World) (k : Nat) : w.drew.heap[k]? = w.heap[k]? := rfl
/-- A call's boxes: what came in (a ledger, the document's, an act), what goes out, and two between. -/
structure DS (w : World) (xb yb : Nat) (lb rb ab xs ys : Array Value) (W : World) : Prop where
 below : Below w.heap.size w W
 b0 : W.heap[w.heap.size]? = some (.cells lb 27 (0, 0))
 b1 : W.heap[w.heap.size + 1]? = some (.cells rb 57 (0, 0))
 b2 : W.heap[w.heap.size + 1 + 1]? = some (.cells ab 43 (0, 0))
 b3 : W.heap[w.heap.size + 1 + 1 + 1]? = some (.cells zl3 27 (0, 0))
 b4 : W.heap[w.heap.size + 1 + 1 + 1 + 1]? = some (.cells zl3 57 (0, 0))
 ge : w.heap.size + 5 ≤ xb ∧ xb < yb
 bx : W.heap[xb]? = some (.cells xs 27 (0, 0))
 bz : W.heap[yb]? = some (.cells ys 57 (0, 0))
section
variable {w W W' : World} {xb yb : Nat} {lb rb ab xs ys : Array Value}
theorem DS.step (h : DS w xb yb lb rb ab xs ys W) (hb : Below W.heap.size W W') : DS w xb yb lb rb ab xs ys W' :=
 ⟨below_step h.below hb, blk_below h.b0 hb, blk_below h.b1 hb, blk_below h.b2 hb, blk_below h.b3 hb, blk_below h.b4 hb, h.ge, blk_below h.bx hb, blk_below h.bz hb⟩
theorem DS.setx {xs' : Array Value} (h : DS w xb yb lb rb ab xs ys W) (j : Nat) (u : Value) (e : xs.setIfInBounds j u = xs') : DS w xb yb lb rb ab xs' ys (W.setCell ⟨xb, j, none⟩ u) :=
 have := h.ge
 ⟨h.below.setCell (p := ⟨xb, j, none⟩) (by show w.heap.size ≤ xb; omega) u, blk_far h.b0 (show w.heap.size ≠ xb by omega) u, blk_far h.b1 (show w.heap.size + 1 ≠ xb by omega) u, blk_far h.b2 (show w.heap.size + 1 + 1 ≠ xb by omega) u, blk_far h.b3 (show w.heap.size + 1 + 1 + 1 ≠ xb by omega) u, blk_far h.b4 (show w.heap.size + 1 + 1 + 1 + 1 ≠ xb by omega) u, h.ge, blk_put h.bx j u e, blk_far h.bz (show yb ≠ xb by omega) u⟩
theorem DS.sety {ys' : Array Value} (h : DS w xb yb lb rb ab xs ys W) (j : Nat) (u : Value) (e : ys.setIfInBounds j u = ys') : DS w xb yb lb rb ab xs ys' (W.setCell ⟨yb, j, none⟩ u) :=
 have := h.ge
 ⟨h.below.setCell (p := ⟨yb, j, none⟩) (by show w.heap.size ≤ yb; omega) u, blk_far h.b0 (show w.heap.size ≠ yb by omega) u, blk_far h.b1 (show w.heap.size + 1 ≠ yb by omega) u, blk_far h.b2 (show w.heap.size + 1 + 1 ≠ yb by omega) u, blk_far h.b3 (show w.heap.size + 1 + 1 + 1 ≠ yb by omega) u, blk_far h.b4 (show w.heap.size + 1 + 1 + 1 + 1 ≠ yb by omega) u, h.ge, blk_far h.bx (show xb ≠ yb by omega) u, blk_put h.bz j u e⟩
theorem DS.setx3 (h : DS w xb yb lb rb ab zl3 ys W) (x0 x1 x2 : Value) : DS w xb yb lb rb ab #[x0, x1, x2] ys (((W.setCell ⟨xb, 0, none⟩ x0).setCell ⟨xb, 1, none⟩ x1).setCell ⟨xb, 2, none⟩ x2) := by
 have h0 := DS.setx (xs' := #[x0, .int .u64 0, .slice none 0 0]) h 0 x0 rfl
 have h1 := DS.setx (xs' := #[x0, x1, .slice none 0 0]) h0 1 x1 rfl
 exact DS.setx (xs' := #[x0, x1, x2]) h1 2 x2 rfl
theorem DS.sety3 (h : DS w xb yb lb rb ab xs zl3 W) (x0 x1 x2 : Value) : DS w xb yb lb rb ab xs #[x0, x1, x2] (((W.setCell ⟨yb, 0, none⟩ x0).setCell ⟨yb, 1, none⟩ x1).setCell ⟨yb, 2, none⟩ x2) := by
 have h0 := DS.sety (ys' := #[x0, .int .u64 0, .slice none 0 0]) h 0 x0 rfl
 have h1 := DS.sety (ys' := #[x0, x1, .slice none 0 0]) h0 1 x1 rfl
 exact DS.sety (ys' := #[x0, x1, x2]) h1 2 x2 rfl
theorem DS.in_ {l0 l1 l2 r0 r1 r2 a0 a1 a2 a3 : Value} (h : DS w xb yb #[l0, l1, l2] #[r0, r1, r2] #[a0, a1, a2, a3] xs ys W) :
  W.cell? ⟨w.heap.size, 0, none⟩ = some l0 ∧ W.cell? ⟨w.heap.size, 1, none⟩ = some l1 ∧ W.cell? ⟨w.heap.size, 2, none⟩ = some l2 ∧ W.cell? ⟨w.heap.size + 1, 0, none⟩ = some r0 ∧ W.cell? ⟨w.heap.size + 1, 1, none⟩ = some r1 ∧ W.cell? ⟨w.heap.size + 1, 2, none⟩ = some r2 ∧
  W.cell? ⟨w.heap.size + 1 + 1, 0, none⟩ = some a0 ∧ W.cell? ⟨w.heap.size + 1 + 1, 1, none⟩ = some a1 ∧ W.cell? ⟨w.heap.size + 1 + 1, 2, none⟩ = some a2 ∧ W.cell? ⟨w.heap.size + 1 + 1, 3, none⟩ = some a3 :=
 ⟨(blk_cell h.b0 0).trans rfl, (blk_cell h.b0 1).trans rfl, (blk_cell h.b0 2).trans rfl, (blk_cell h.b1 0).trans rfl, (blk_cell h.b1 1).trans rfl, (blk_cell h.b1 2).trans rfl, (blk_cell h.b2 0).trans rfl, (blk_cell h.b2 1).trans rfl, (blk_cell h.b2 2).trans rfl, (blk_cell h.b2 3).trans rfl⟩
theorem DS.mid {x0 x1 x2 y0 y1 y2 : Value} (h : DS w xb yb lb rb ab #[x0, x1, x2] #[y0, y1, y2] W) :
  W.cell? ⟨xb, 0, none⟩ = some x0 ∧ W.cell? ⟨xb, 1, none⟩ = some x1 ∧ W.cell? ⟨xb, 2, none⟩ = some x2 ∧ W.cell? ⟨yb, 0, none⟩ = some y0 ∧ W.cell? ⟨yb, 1, none⟩ = some y1 ∧ W.cell? ⟨yb, 2, none⟩ = some y2 ∧ (∀ j, W.frozen? ⟨xb, j, none⟩ = false) ∧ (∀ j, W.frozen? ⟨yb, j, none⟩ = false) :=
 ⟨(blk_cell h.bx 0).trans rfl, (blk_cell h.bx 1).trans rfl, (blk_cell h.bx 2).trans rfl, (blk_cell h.bz 0).trans rfl, (blk_cell h.bz 1).trans rfl, (blk_cell h.bz 2).trans rfl, blk_frozen h.bx, blk_frozen h.bz⟩
theorem DS.lt (h : DS w xb yb lb rb ab xs ys W) : yb < W.heap.size := blk_lt h.bz
theorem vx3 {α : Type} {d : Kd α} {e : Nat} {base : Nat} {P : Nat → Prop} {v : Value} {l : List α} (h : DS w xb yb lb rb ab xs ys W) (hV : Kd.V d e W base (fun k_ => (P k_ ∧ k_ < w.heap.size) ∨ yb < k_) v l) (u0 u1 u2 : Value) :
  Kd.V d e (((W.setCell ⟨xb, 0, none⟩ u0).setCell ⟨xb, 1, none⟩ u1).setCell ⟨xb, 2, none⟩ u2) base (fun k_ => (P k_ ∧ k_ < w.heap.size) ∨ yb < k_) v l :=
 have hn : ∀ k_, ((P k_ ∧ k_ < w.heap.size) ∨ yb < k_) → k_ ≠ xb := fun k_ hk_ => by have := h.ge; omega
 Kd.V_far (p := ⟨xb, 2, none⟩) (Kd.V_far (p := ⟨xb, 1, none⟩) (Kd.V_far (p := ⟨xb, 0, none⟩) hV hn u0) hn u1) hn u2
theorem vy3 {α : Type} {d : Kd α} {e : Nat} {base : Nat} {P : Nat → Prop} {v : Value} {l : List α} (h : DS w xb yb lb rb ab xs ys W) (hV : Kd.V d e W base (fun k_ => (P k_ ∧ k_ < w.heap.size) ∨ yb < k_) v l) (u0 u1 u2 : Value) :
  Kd.V d e (((W.setCell ⟨yb, 0, none⟩ u0).setCell ⟨yb, 1, none⟩ u1).setCell ⟨yb, 2, none⟩ u2) base (fun k_ => (P k_ ∧ k_ < w.heap.size) ∨ yb < k_) v l :=
 have hn : ∀ k_, ((P k_ ∧ k_ < w.heap.size) ∨ yb < k_) → k_ ≠ yb := fun k_ hk_ => by have := h.ge; omega
 Kd.V_far (p := ⟨yb, 2, none⟩) (Kd.V_far (p := ⟨yb, 1, none⟩) (Kd.V_far (p := ⟨yb, 0, none⟩) hV hn u0) hn u1) hn u2
end
theorem results_cct {P : Program} {fn : Func} {p p' u : Tmp} {ty ty' : TypeId} (h : fn.results = #[.cell p ty, .cell p' ty', .tmp u]) (tmps : Array Value) (w : World) (g g' : Nat) (t t' : TypeId) (cs cs' : Array Value) (fr fr' : Nat × Nat) (d d' : TypeDesc)
  (hp : tmps.getD p undef = .pointer (some ⟨g, 0, none⟩)) (hg : w.heap[g]? = some (.cells cs t fr)) (hu : P.underlying ty = some d) (hd : (match d with | .struct _ | .array _ _ => true | _ => false) = true) (hi : (P.info? ty).map (·.size) = some cs.size)
  (hp' : tmps.getD p' undef = .pointer (some ⟨g', 0, none⟩)) (hg' : w.heap[g']? = some (.cells cs' t' fr')) (hu' : P.underlying ty' = some d') (hd' : (match d' with | .struct _ | .array _ _ => true | _ => false) = true) (hi' : (P.info? ty').map (·.size) = some cs'.size) :
  (results fn tmps).run P w = .ok (.tuple #[.agg cs, .agg cs', tmps.getD u undef]) w :=
 results_list (rs := [.cell p ty, .cell p' ty', .tmp u]) (vs := [.agg cs, .agg cs', tmps.getD u undef]) h (by simp) (.cell g t cs fr d hp hg hu hd hi (.cell g' t' cs' fr' d' hp' hg' hu' hd' hi' (.tmp .nil)))
/-- What goes out has been stored. -/
structure Fin3 (b c : Nat) (xs ys : Array Value) (W W2 : World) : Prop where
 h3 : W2.heap[b]? = some (.cells xs 27 (0, 0))
 h4 : W2.heap[c]? = some (.cells ys 57 (0, 0))
 far : ∀ k, k ≠ b → k ≠ c → W2.heap[k]? = W.heap[k]?
 below : ∀ w : World, w.heap.size ≤ b → w.heap.size ≤ c → Below w.heap.size w W → Below w.heap.size w W2
theorem put3 {W : World} {b t : Nat} (h : W.heap[b]? = some (.cells zl3 t (0, 0))) (x0 x1 x2 : Value) : (((W.setCell ⟨b, 0, none⟩ x0).setCell ⟨b, 1, none⟩ x1).setCell ⟨b, 2, none⟩ x2).heap[b]? = some (.cells #[x0, x1, x2] t (0, 0)) :=
 blk_put (cs := #[x0, x1, .slice none 0 0]) (blk_put (cs := #[x0, .int .u64 0, .slice none 0 0]) (blk_put (cs := zl3) h 0 x0 rfl) 1 x1 rfl) 2 x2 rfl
theorem far3 (W : World) (b : Nat) (x0 x1 x2 : Value) (k : Nat) (h : k ≠ b) : (((W.setCell ⟨b, 0, none⟩ x0).setCell ⟨b, 1, none⟩ x1).setCell ⟨b, 2, none⟩ x2).heap[k]? = W.heap[k]? :=
 ((Below.heap_setCell _ _ _ k h).trans (Below.heap_setCell _ _ _ k h)).trans (Below.heap_setCell _ _ _ k h)
theorem below3 {w W : World} {b : Nat} (hb : w.heap.size ≤ b) (h : Below w.heap.size w W) (x0 x1 x2 : Value) : Below w.heap.size w (((W.setCell ⟨b, 0, none⟩ x0).setCell ⟨b, 1, none⟩ x1).setCell ⟨b, 2, none⟩ x2) :=
 ((h.setCell (p := ⟨b, 0, none⟩) hb _).setCell (p := ⟨b, 1, none⟩) hb _).setCell (p := ⟨b, 2, none⟩) hb _
theorem fin_a {W : World} {b c : Nat} (h3 : W.heap[b]? = some (.cells zl3 27 (0, 0))) (h4 : W.heap[c]? = some (.cells zl3 57 (0, 0))) (hn : b ≠ c) (x0 x1 x2 y0 y1 y2 : Value) :
  Fin3 b c #[x0, x1, x2] #[y0, y1, y2] W ((((((W.setCell ⟨b, 0, none⟩ x0).setCell ⟨b, 1, none⟩ x1).setCell ⟨b, 2, none⟩ x2).setCell ⟨c, 0, none⟩ y0).setCell ⟨c, 1, none⟩ y1).setCell ⟨c, 2, none⟩ y2) :=
 ⟨(far3 _ c _ _ _ b hn).trans (put3 h3 _ _ _), put3 ((far3 _ b _ _ _ c hn.symm).trans h4) _ _ _, fun k h5 h6 => (far3 _ c _ _ _ k h6).trans (far3 _ b _ _ _ k h5), fun w hb hc h => below3 hc (below3 hb h _ _ _) _ _ _⟩
def doesX (k : Nat) (f n : Int) (l : List D) (f' n' : Int) (r : List RD) (nm : ByteArray) (seq kind kk : Int) : Option (Int × Int × List D × Int × Int × Int × List RD × Int) :=
 if kk < 4 then (ledger_Add.f f n l).bind fun x => (postroomref10_Add.f k f' n' r).bind fun y => some (x.1, x.2.1, x.2.2, 0, y.1, y.2.1, y.2.2, 0)
 else if kk = 4 then (ledger_Join.f f n l nm).bind fun x => (postroomref10_Join.f k f' n' r nm).bind fun y => some (x.1, x.2.1, x.2.2.1, x.2.2.2, y.1, y.2.1, y.2.2.1, y.2.2.2)
 else if kk = 5 then (ledger_Leave.f f n l nm).bind fun x => (postroomref10_Leave.f k f' n' r nm).bind fun y => some (x.1, x.2.1, x.2.2.1, x.2.2.2, y.1, y.2.1, y.2.2.1, y.2.2.2)
 else if kk < 10 then (postroomlaw10_kind.f kind).bind fun kd => (ledger_Done.f k f n l nm (IntKind.u64.wrap seq) kd).bind fun x => (postroomref10_Done.f k f' n' r nm (IntKind.u64.wrap seq) kd).bind fun y => some (x.1, x.2.1, x.2.2.1, x.2.2.2, y.1, y.2.1, y.2.2.1, y.2.2.2)
 else (ledger_Evict.f k f n l (IntKind.u64.wrap seq)).bind fun x => (postroomref10_Evict.f k f' n' r (IntKind.u64.wrap seq)).bind fun y => some (x.1, x.2.1, x.2.2.1, x.2.2.2, y.1, y.2.1, y.2.2.1, y.2.2.2)
def postroomlaw10_does.f (k : Nat) (a0_0 a0_1 : Int) (l0_2 : List D) (a1_0 a1_1 : Int) (l1_2 : List RD) (a2_0 a2_1 a2_2 a2_3 : Int) : Option (Int × Int × List D × Int × Int × List RD × Bool) :=
 (postroomlaw10_name.f a2_1).bind fun nm => (postroomlaw10_pick.f a2_0 11).bind fun kk => (doesX k a0_0 a0_1 l0_2 a1_0 a1_1 l1_2 nm a2_2 a2_3 kk).bind fun q =>
  if q.2.2.2.1 = q.2.2.2.2.2.2.2 ∧ q.1 = q.2.2.2.2.1 ∧ q.2.1 = q.2.2.2.2.2.1 ∧ asL k q.2.2.1 q.2.2.2.2.2.2.1 then (if q.2.2.2.1 = 0 then some (q.1, q.2.1, q.2.2.1, q.1, q.2.1, q.2.2.2.2.2.2.1, true) else some (a0_0, a0_1, l0_2, a1_0, a1_1, l1_2, true)) else none
set_option maxHeartbeats 16000000 in
set_option maxRecDepth 100000 in
theorem postroomlaw10_does.calls (k : Nat) (a0_0 : Int) (a0_1 : Int) (P0_2_ : Nat → Prop) (A0_2 : Option Addr) (c0_2 : Nat) (l0_2 : List D) (a1_0 : Int) (a1_1 : Int) (P1_2_ : Nat → Prop) (A1_2 : Option Addr) (c1_2 : Nat) (l1_2 : List RD) (a2_0 : Int) (a2_1 : Int) (a2_2 : Int) (a2_3 : Int) (r1 : Int) (r2 : Int) (r3 : List D) (r4 : Int) (r5 : Int) (r6 : List RD) (r7 : Bool) (w : World)
  (hs0_2 : Kd.V k37 37 w w.heap.size (fun k_ => P0_2_ k_) (.slice A0_2 l0_2.length c0_2) l0_2) (hs1_2 : Kd.V k84 84 w w.heap.size (fun k_ => P1_2_ k_) (.slice A1_2 l1_2.length c1_2) l1_2)
  (h : postroomlaw10_does.f k a0_0 a0_1 l0_2 a1_0 a1_1 l1_2 a2_0 a2_1 a2_2 a2_3 = some (r1, r2, r3, r4, r5, r6, r7)) :
  Calls Tryd.prog 27 #[.agg #[.int .u64 a0_0, .int .u64 a0_1, .slice A0_2 l0_2.length c0_2], .agg #[.int .u64 a1_0, .int .u64 a1_1, .slice A1_2 l1_2.length c1_2], .agg #[.int .i64 a2_0, .int .i64 a2_1, .int .i64 a2_2, .int .i64 a2_3]] w fun e w' => ∃ v2_ v5_ : Value, e = .returned (.tuple #[.agg #[.int .u64 r1, .int .u64 r2, v2_], .agg #[.int .u64 r4, .int .u64 r5, v5_], .bool r7]) ∧
   Kd.V k37 37 w' w.heap.size (fun k_ => (P0_2_ k_ ∨ P1_2_ k_) ∨ w.heap.size ≤ k_) v2_ r3 ∧ Kd.V k84 84 w' w.heap.size (fun k_ => (P0_2_ k_ ∨ P1_2_ k_) ∨ w.heap.size ≤ k_) v5_ r6 ∧ Below w.heap.size w w' := by
 unfold postroomlaw10_does.f at h
 obtain ⟨nm, hnm, h⟩ := Option.bind_eq_some_iff.1 h
 obtain ⟨kk, hkk, h⟩ := Option.bind_eq_some_iff.1 h
 obtain ⟨⟨x1, x2, x3, ee, y1, y2, y3, e'⟩, hq, h⟩ := Option.bind_eq_some_iff.1 h
 simp only at h
 have HNM := Lib.hid hnm
 have HKK := Lib.hid hkk
 have HQ := Lib.hid hq
 have HV0 := Aside0.mk (Kd.V_bound hs0_2)
 have HV1 := Aside0.mk (Kd.V_bound hs1_2)
 clear hs0_2 hs1_2 hnm hkk hq
 split at h
 ·rename_i hc
  obtain ⟨rfl, rfl, rfl, has⟩ := hc
  have HAS := Aside0.mk has
  have HH := Lib.hid h
  clear has h
  have mixed : Tryd.prog.follows .mixedOrders = true := by kernel_rfl
  go_enter Tryd.func27, Tryd.ntmps27
  go_wp2_with fail
  have HB0 := Aside0.mk (show Below w.heap.size w (((((w.alloc (.cells #[.int .u64 a0_0, .int .u64 a0_1, .slice A0_2 l0_2.length c0_2] 27)).alloc (.cells #[.int .u64 a1_0, .int .u64 a1_1, .slice A1_2 l1_2.length c1_2] 57)).alloc (.cells #[.int .i64 a2_0, .int .i64 a2_1, .int .i64 a2_2, .int .i64 a2_3] 43)).alloc (.cells zl3 27)).alloc (.cells zl3 57)) from below_alloc (below_alloc (below_alloc (below_alloc (below_alloc (Below.refl _ _) _) _) _) _) _)
  have H00 := Aside0.mk (show (((((w.alloc (.cells #[.int .u64 a0_0, .int .u64 a0_1, .slice A0_2 l0_2.length c0_2] 27)).alloc (.cells #[.int .u64 a1_0, .int .u64 a1_1, .slice A1_2 l1_2.length c1_2] 57)).alloc (.cells #[.int .i64 a2_0, .int .i64 a2_1, .int .i64 a2_2, .int .i64 a2_3] 43)).alloc (.cells zl3 27)).alloc (.cells zl3 57)).heap[w.heap.size]? = some (.cells #[.int .u64 a0_0, .int .u64 a0_1, .slice A0_2 l0_2.length c0_2] 27 (0, 0)) from blk_alloc (blk_alloc (blk_alloc (blk_alloc (blk_new _ _) _) _) _) _)
  have H01 := Aside0.mk (show (((((w.alloc (.cells #[.int .u64 a0_0, .int .u64 a0_1, .slice A0_2 l0_2.length c0_2] 27)).alloc (.cells #[.int .u64 a1_0, .int .u64 a1_1, .slice A1_2 l1_2.length c1_2] 57)).alloc (.cells #[.int .i64 a2_0, .int .i64 a2_1, .int .i64 a2_2, .int .i64 a2_3] 43)).alloc (.cells zl3 27)).alloc (.cells zl3 57)).heap[w.heap.size + 1]? = some (.cells #[.int .u64 a1_0, .int .u64 a1_1, .slice A1_2 l1_2.length c1_2] 57 (0, 0)) from blk_alloc (blk_alloc (blk_alloc (by simpa using blk_new (w.alloc (.cells #[.int .u64 a0_0, .int .u64 a0_1, .slice A0_2 l0_2.length c0_2] 27)) _) _) _) _)
  have H02 := Aside0.mk (show (((((w.alloc (.cells #[.int .u64 a0_0, .int .u64 a0_1, .slice A0_2 l0_2.length c0_2] 27)).alloc (.cells #[.int .u64 a1_0, .int .u64 a1_1, .slice A1_2 l1_2.length c1_2] 57)).alloc (.cells #[.int .i64 a2_0, .int .i64 a2_1, .int .i64 a2_2, .int .i64 a2_3] 43)).alloc (.cells zl3 27)).alloc (.cells zl3 57)).heap[w.heap.size + 1 + 1]? = some (.cells #[.int .i64 a2_0, .int .i64 a2_1, .int .i64 a2_2, .int .i64 a2_3] 43 (0, 0)) from blk_alloc (blk_alloc (by simpa using blk_new ((w.alloc (.cells #[.int .u64 a0_0, .int .u64 a0_1, .slice A0_2 l0_2.length c0_2] 27)).alloc (.cells #[.int .u64 a1_0, .int .u64 a1_1, .slice A1_2 l1_2.length c1_2] 57)) _) _) _)
  have H03 := Aside0.mk (show (((((w.alloc (.cells #[.int .u64 a0_0, .int .u64 a0_1, .slice A0_2 l0_2.length c0_2] 27)).alloc (.cells #[.int .u64 a1_0, .int .u64 a1_1, .slice A1_2 l1_2.length c1_2] 57)).alloc (.cells #[.int .i64 a2_0, .int .i64 a2_1, .int .i64 a2_2, .int .i64 a2_3] 43)).alloc (.cells zl3 27)).alloc (.cells zl3 57)).heap[w.heap.size + 1 + 1 + 1]? = some (.cells zl3 27 (0, 0)) from blk_alloc (by simpa using blk_new (((w.alloc (.cells #[.int .u64 a0_0, .int .u64 a0_1, .slice A0_2 l0_2.length c0_2] 27)).alloc (.cells #[.int .u64 a1_0, .int .u64 a1_1, .slice A1_2 l1_2.length c1_2] 57)).alloc (.cells #[.int .i64 a2_0, .int .i64 a2_1, .int .i64 a2_2, .int .i64 a2_3] 43)) _) _)
  have H04 := Aside0.mk (show (((((w.alloc (.cells #[.int .u64 a0_0, .int .u64 a0_1, .slice A0_2 l0_2.length c0_2] 27)).alloc (.cells #[.int .u64 a1_0, .int .u64 a1_1, .slice A1_2 l1_2.length c1_2] 57)).alloc (.cells #[.int .i64 a2_0, .int .i64 a2_1, .int .i64 a2_2, .int .i64 a2_3] 43)).alloc (.cells zl3 27)).alloc (.cells zl3 57)).heap[w.heap.size + 1 + 1 + 1 + 1]? = some (.cells zl3 57 (0, 0)) by simpa using blk_new ((((w.alloc (.cells #[.int .u64 a0_0, .int .u64 a0_1, .slice A0_2 l0_2.length c0_2] 27)).alloc (.cells #[.int .u64 a1_0, .int .u64 a1_1, .slice A1_2 l1_2.length c1_2] 57)).alloc (.cells #[.int .i64 a2_0, .int .i64 a2_1, .int .i64 a2_2, .int .i64 a2_3] 43)).alloc (.cells zl3 27)) _)
  generalize (((((w.alloc (.cells #[.int .u64 a0_0, .int .u64 a0_1, .slice A0_2 l0_2.length c0_2] 27)).alloc (.cells #[.int .u64 a1_0, .int .u64 a1_1, .slice A1_2 l1_2.length c1_2] 57)).alloc (.cells #[.int .i64 a2_0, .int .i64 a2_1, .int .i64 a2_2, .int .i64 a2_3] 43)).alloc (.cells zl3 27)).alloc (.cells zl3 57)) = w0 at HB0 H00 H01 H02 H03 H04 ⊢
  refine (postroomlaw10_name.calls a2_1 nm _ HNM.out).mono ?_
  rintro e w1 ⟨rfl, hb1⟩
  have HB1 := Aside0.mk (below_step HB0.out hb1)
  have H10 := Aside0.mk (blk_below H00.out hb1)
  have H11 := Aside0.mk (blk_below H01.out hb1)
  have H12 := Aside0.mk (blk_below H02.out hb1)
  have H13 := Aside0.mk (blk_below H03.out hb1)
  have H14 := Aside0.mk (blk_below H04.out hb1)
  clear HB0 H00 H01 H02 H03 H04 hb1
  go_upto_region 6 with fail
  (try simp only [Act.put, List.setIfInBounds_toArray, List.set_cons_zero, List.set_cons_succ])
  have HD0 := Aside0.mk (show DS w w1.heap.size (w1.heap.size + 1) #[.int .u64 a0_0, .int .u64 a0_1, .slice A0_2 l0_2.length c0_2] #[.int .u64 a1_0, .int .u64 a1_1, .slice A1_2 l1_2.length c1_2] #[.int .i64 a2_0, .int .i64 a2_1, .int .i64 a2_2, .int .i64 a2_3] zl3 zl3 ((w1.alloc (.cells zl3 27)).alloc (.cells zl3 57)) from
   ⟨below_alloc (below_alloc HB1.out _) _, blk_alloc (blk_alloc H10.out _) _, blk_alloc (blk_alloc H11.out _) _, blk_alloc (blk_alloc H12.out _) _, blk_alloc (blk_alloc H13.out _) _, blk_alloc (blk_alloc H14.out _) _, ⟨by have := blk_lt H14.out; omega, Nat.lt_succ_self _⟩, blk_alloc (blk_new _ _) _, by simpa using blk_new (w1.alloc (.cells zl3 27)) (.cells zl3 57)⟩)
  clear HB1 H10 H11 H12 H13 H14
  generalize ((w1.alloc (.cells zl3 27)).alloc (.cells zl3 57)) = w2 at HD0 ⊢
  generalize w1.heap.size + 1 = yb at HD0 ⊢
  generalize w1.heap.size = xb at HD0 ⊢
  go_cut [14] (fun v14 wc => v14 = .int .i64 kk ∧ Aside0 (DS w xb yb #[.int .u64 a0_0, .int .u64 a0_1, .slice A0_2 l0_2.length c0_2] #[.int .u64 a1_0, .int .u64 a1_1, .slice A1_2 l1_2.length c1_2] #[.int .i64 a2_0, .int .i64 a2_1, .int .i64 a2_2, .int .i64 a2_3] zl3 zl3 wc))
  case first =>
   have ha0 : w2.cell? ⟨w.heap.size + 1 + 1, 0, none⟩ = some (.int .i64 a2_0) := HD0.out.in_.2.2.2.2.2.2.1
   go_wp2_with fail
   refine (postroomlaw10_pick.calls a2_0 11 kk _ HKK.out).mono ?_
   rintro e w3 ⟨rfl, hd3⟩
   have HD3 := Aside0.mk (HD0.out.step hd3.below)
   clear HD0 hd3
   go_wp2
   go_meet
   case rel => exact ⟨rfl, HD3⟩
  case rest =>
   obtain ⟨rfl, HD3⟩ := hcut
   apply_assumption
   have hxy := HD3.out.ge
   have hn1 : w.heap.size ≠ xb := by omega
   have hn2 : w.heap.size + 1 ≠ xb := by omega
   have hn3 : w.heap.size + 1 + 1 ≠ xb := by omega
   have hn4 : w.heap.size ≠ yb := by omega
   have hn5 : w.heap.size + 1 ≠ yb := by omega
   have hn6 : w.heap.size + 1 + 1 ≠ yb := by omega
   have hn7 : xb ≠ yb := by omega
   have hn8 : yb ≠ xb := by omega
   clear hxy
   go_cut [12, 13] (fun v12 v13 wc => ∃ (vx vy : Value), v12 = .int .i64 ee ∧ v13 = .int .i64 ee ∧ Aside0 (DS w xb yb #[.int .u64 a0_0, .int .u64 a0_1, .slice A0_2 l0_2.length c0_2] #[.int .u64 a1_0, .int .u64 a1_1, .slice A1_2 l1_2.length c1_2] #[.int .i64 a2_0, .int .i64 a2_1, .int .i64 a2_2, .int .i64 a2_3] #[.int .u64 x1, .int .u64 x2, vx] #[.int .u64 x1, .int .u64 x2, vy] wc) ∧ Aside0 (Kd.V k37 37 wc w.heap.size (fun k_ => (P0_2_ k_ ∧ k_ < w.heap.size) ∨ yb < k_) vx x3) ∧ Aside0 (Kd.V k84 84 wc w.heap.size (fun k_ => (P1_2_ k_ ∧ k_ < w.heap.size) ∨ yb < k_) vy y3))
   case first =>
    have hq := HQ.out
    unfold doesX at hq
    obtain ⟨hl0, hl1, hl2, hr0, hr1, hr2, ha0, ha1, ha2, ha3⟩ := HD3.out.in_
    obtain ⟨hx0, hx1, hx2, hy0, hy1, hy2, hxf, hyf⟩ := HD3.out.mid
    by_cases c1 : kk < 4
    ·rw [if_pos c1] at hq
     have cb1 := decide_eq_true c1
     obtain ⟨⟨q1, q2, q3⟩, hX, hq⟩ := Option.bind_eq_some_iff.1 hq
     obtain ⟨⟨p1, p2, p3⟩, hY, hq⟩ := Option.bind_eq_some_iff.1 hq
     simp only [Option.some.injEq, Prod.mk.injEq] at hq
     obtain ⟨h1, h2, h3, h4, h5, h6, h7, h8⟩ := hq
     rw [h1, h2, h3] at hX
     rw [h5, h6, h7] at hY
     have HX := Lib.hid hX
     have HY := Lib.hid hY
     subst h4
     clear hX hY h1 h2 h3 h5 h6 h7 h8
     go_wp2_with (first
      | (go_at_call 16; (with_reducible refine (ledger_Add.calls a0_0 a0_1 (fun k_ => P0_2_ k_ ∧ k_ < w.heap.size) A0_2 c0_2 l0_2 x1 x2 x3 _ ?side1 HX.out).mono ?_); (case side1 => exact (Kd.V_below HV0.out HD3.out.below)); rintro e w4 ⟨vx, rfl, hNx, hb4⟩; have hVx := Kd.N_V (base' := w.heap.size) hNx; obtain ⟨Ax, cx, rfl⟩ := Kd.V_slice hVx; have hge4 := HD3.out.lt; have HVX := Aside0.mk (Kd.V_mono (ok' := fun k_ => (P0_2_ k_ ∧ k_ < w.heap.size) ∨ yb < k_) hVx (fun k_ hk_ => by rcases hk_ with h_ | h_; exact .inl h_; exact .inr (by omega))); have HD4 := Aside0.mk (HD3.out.step hb4); clear hNx hVx hb4 hge4 hl0 hl1 hl2 hr0 hr1 hr2 ha0 ha1 ha2 ha3 hx0 hx1 hx2 hy0 hy1 hy2 hxf hyf; obtain ⟨hl0, hl1, hl2, hr0, hr1, hr2, ha0, ha1, ha2, ha3⟩ := HD4.out.in_; obtain ⟨hx0, hx1, hx2, hy0, hy1, hy2, hxf, hyf⟩ := HD4.out.mid)
      | (go_at_call 39; have HD5 := Aside0.mk (DS.setx3 HD4.out (.int .u64 x1) (.int .u64 x2) (.slice Ax x3.length cx)); have hge5 := HD5.out.lt; (with_reducible refine (postroomref10_Add.calls k a1_0 a1_1 A1_2 c1_2 l1_2 x1 x2 y3 _ ?side1 ?side2 HY.out).mono ?_); (case side1 => exact (Kd.V_reads' (Kd.V_below HV1.out HD5.out.below)).2.2); (case side2 => exact (Kd.V_reads' HV1.out).2.1); rintro e w6 ⟨vy, rfl, hSy, hb6⟩; have hVy := Kd.S_V (base' := w.heap.size) (Kd.S_bound hSy); obtain ⟨Ay, cy, rfl⟩ := Kd.V_slice hVy; have HVY := Aside0.mk (Kd.V_mono (ok' := fun k_ => (P1_2_ k_ ∧ k_ < w.heap.size) ∨ yb < k_) hVy (fun k_ hk_ => .inr (by have := hk_.2.1; omega))); have hVx2 := Kd.V_below (vx3 HD4.out HVX.out (.int .u64 x1) (.int .u64 x2) (.slice Ax x3.length cx)) hb6; have HVX6 := Aside0.mk hVx2; have HD6 := Aside0.mk (HD5.out.step hb6); clear hSy hVy hb6 hge5 hVx2 hl0 hl1 hl2 hr0 hr1 hr2 ha0 ha1 ha2 ha3 hx0 hx1 hx2 hy0 hy1 hy2 hxf hyf; obtain ⟨hl0, hl1, hl2, hr0, hr1, hr2, ha0, ha1, ha2, ha3⟩ := HD6.out.in_; obtain ⟨hx0, hx1, hx2, hy0, hy1, hy2, hxf, hyf⟩ := HD6.out.mid))
     go_meet
     case rel => exact ⟨_, _, rfl, rfl, ⟨DS.sety3 HD6.out (.int .u64 x1) (.int .u64 x2) (.slice Ay y3.length cy)⟩, ⟨vy3 HD6.out HVX6.out _ _ _⟩, ⟨vy3 HD6.out HVY.out _ _ _⟩⟩
    ·rw [if_neg c1] at hq
     have cb1 := decide_eq_false c1
     by_cases c2 : kk = 4
     ·rw [if_pos c2] at hq
      subst c2
      obtain ⟨⟨q1, q2, q3, q4⟩, hX, hq⟩ := Option.bind_eq_some_iff.1 hq
      obtain ⟨⟨p1, p2, p3, p4⟩, hY, hq⟩ := Option.bind_eq_some_iff.1 hq
      simp only [Option.some.injEq, Prod.mk.injEq] at hq
      obtain ⟨h1, h2, h3, h4, h5, h6, h7, h8⟩ := hq
      rw [h1, h2, h3, h4] at hX
      rw [h5, h6, h7, h8] at hY
      have HX := Lib.hid hX
      have HY := Lib.hid hY
      clear hX hY h1 h2 h3 h4 h5 h6 h7 h8
      go_wp2_with (first
       | (go_at_call 14; (with_reducible refine (ledger_Join.calls a0_0 a0_1 (fun k_ => P0_2_ k_ ∧ k_ < w.heap.size) A0_2 c0_2 l0_2 nm x1 x2 x3 ee _ ?side1 HX.out).mono ?_); (case side1 => exact (Kd.V_below HV0.out HD3.out.below)); rintro e w4 ⟨vx, rfl, hNx, hb4⟩; have hVx := Kd.N_V (base' := w.heap.size) hNx; obtain ⟨Ax, cx, rfl⟩ := Kd.V_slice hVx; have hge4 := HD3.out.lt; have HVX := Aside0.mk (Kd.V_mono (ok' := fun k_ => (P0_2_ k_ ∧ k_ < w.heap.size) ∨ yb < k_) hVx (fun k_ hk_ => by rcases hk_ with h_ | h_; exact .inl h_; exact .inr (by omega))); have HD4 := Aside0.mk (HD3.out.step hb4); clear hNx hVx hb4 hge4 hl0 hl1 hl2 hr0 hr1 hr2 ha0 ha1 ha2 ha3 hx0 hx1 hx2 hy0 hy1 hy2 hxf hyf; obtain ⟨hl0, hl1, hl2, hr0, hr1, hr2, ha0, ha1, ha2, ha3⟩ := HD4.out.in_; obtain ⟨hx0, hx1, hx2, hy0, hy1, hy2, hxf, hyf⟩ := HD4.out.mid)
       | (go_at_call 40; have HD5 := Aside0.mk (DS.setx3 HD4.out (.int .u64 x1) (.int .u64 x2) (.slice Ax x3.length cx)); have hge5 := HD5.out.lt; (with_reducible refine (postroomref10_Join.calls k a1_0 a1_1 A1_2 c1_2 l1_2 nm x1 x2 y3 ee _ ?side1 ?side2 HY.out).mono ?_); (case side1 => exact (Kd.V_reads' (Kd.V_below HV1.out HD5.out.below)).2.2); (case side2 => exact (Kd.V_reads' HV1.out).2.1); rintro e w6 ⟨vy, rfl, hSy, hb6⟩; have hVy := Kd.S_V (base' := w.heap.size) (Kd.S_bound hSy); obtain ⟨Ay, cy, rfl⟩ := Kd.V_slice hVy; have HVY := Aside0.mk (Kd.V_mono (ok' := fun k_ => (P1_2_ k_ ∧ k_ < w.heap.size) ∨ yb < k_) hVy (fun k_ hk_ => .inr (by have := hk_.2.1; omega))); have hVx2 := Kd.V_below (vx3 HD4.out HVX.out (.int .u64 x1) (.int .u64 x2) (.slice Ax x3.length cx)) hb6; have HVX6 := Aside0.mk hVx2; have HD6 := Aside0.mk (HD5.out.step hb6); clear hSy hVy hb6 hge5 hVx2 hl0 hl1 hl2 hr0 hr1 hr2 ha0 ha1 ha2 ha3 hx0 hx1 hx2 hy0 hy1 hy2 hxf hyf; obtain ⟨hl0, hl1, hl2, hr0, hr1, hr2, ha0, ha1, ha2, ha3⟩ := HD6.out.in_; obtain ⟨hx0, hx1, hx2, hy0, hy1, hy2, hxf, hyf⟩ := HD6.out.mid))
      go_meet
      case rel => exact ⟨_, _, rfl, rfl, ⟨DS.sety3 HD6.out (.int .u64 x1) (.int .u64 x2) (.slice Ay y3.length cy)⟩, ⟨vy3 HD6.out HVX6.out _ _ _⟩, ⟨vy3 HD6.out HVY.out _ _ _⟩⟩
     ·rw [if_neg c2] at hq
      have cb2 : (kk == 4) = false := beq_eq_false_iff_ne.2 c2
      by_cases c3 : kk = 5
      ·rw [if_pos c3] at hq
       subst c3
       obtain ⟨⟨q1, q2, q3, q4⟩, hX, hq⟩ := Option.bind_eq_some_iff.1 hq
       obtain ⟨⟨p1, p2, p3, p4⟩, hY, hq⟩ := Option.bind_eq_some_iff.1 hq
       simp only [Option.some.injEq, Prod.mk.injEq] at hq
       obtain ⟨h1, h2, h3, h4, h5, h6, h7, h8⟩ := hq
       rw [h1, h2, h3, h4] at hX
       rw [h5, h6, h7, h8] at hY
       have HX := Lib.hid hX
       have HY := Lib.hid hY
       clear hX hY h1 h2 h3 h4 h5 h6 h7 h8
       go_wp2_with (first
        | (go_at_call 13; (with_reducible refine (ledger_Leave.calls a0_0 a0_1 (fun k_ => P0_2_ k_ ∧ k_ < w.heap.size) A0_2 c0_2 l0_2 nm x1 x2 x3 ee _ ?side1 HX.out).mono ?_); (case side1 => exact (Kd.V_below HV0.out HD3.out.below)); rintro e w4 ⟨vx, rfl, hNx, hb4⟩; have hVx := hNx; obtain ⟨Ax, cx, rfl⟩ := Kd.V_slice hVx; have hge4 := HD3.out.lt; have HVX := Aside0.mk (Kd.V_mono (ok' := fun k_ => (P0_2_ k_ ∧ k_ < w.heap.size) ∨ yb < k_) hVx (fun k_ hk_ => by rcases hk_ with h_ | h_; exact .inl h_; exact .inr (by omega))); have HD4 := Aside0.mk (HD3.out.step hb4); clear hNx hVx hb4 hge4 hl0 hl1 hl2 hr0 hr1 hr2 ha0 ha1 ha2 ha3 hx0 hx1 hx2 hy0 hy1 hy2 hxf hyf; obtain ⟨hl0, hl1, hl2, hr0, hr1, hr2, ha0, ha1, ha2, ha3⟩ := HD4.out.in_; obtain ⟨hx0, hx1, hx2, hy0, hy1, hy2, hxf, hyf⟩ := HD4.out.mid)
        | (go_at_call 41; have HD5 := Aside0.mk (DS.setx3 HD4.out (.int .u64 x1) (.int .u64 x2) (.slice Ax x3.length cx)); have hge5 := HD5.out.lt; (with_reducible refine (postroomref10_Leave.calls k a1_0 a1_1 A1_2 c1_2 l1_2 nm x1 x2 y3 ee _ ?side1 ?side2 HY.out).mono ?_); (case side1 => exact (Kd.V_reads' (Kd.V_below HV1.out HD5.out.below)).2.2); (case side2 => exact (Kd.V_reads' HV1.out).2.1); rintro e w6 ⟨vy, rfl, hSy, hb6⟩; have hVy := Kd.N_V (base' := w.heap.size) hSy; obtain ⟨Ay, cy, rfl⟩ := Kd.V_slice hVy; have HVY := Aside0.mk (Kd.V_mono (ok' := fun k_ => (P1_2_ k_ ∧ k_ < w.heap.size) ∨ yb < k_) hVy (fun k_ hk_ => .inr (by omega))); have hVx2 := Kd.V_below (vx3 HD4.out HVX.out (.int .u64 x1) (.int .u64 x2) (.slice Ax x3.length cx)) hb6; have HVX6 := Aside0.mk hVx2; have HD6 := Aside0.mk (HD5.out.step hb6); clear hSy hVy hb6 hge5 hVx2 hl0 hl1 hl2 hr0 hr1 hr2 ha0 ha1 ha2 ha3 hx0 hx1 hx2 hy0 hy1 hy2 hxf hyf; obtain ⟨hl0, hl1, hl2, hr0, hr1, hr2, ha0, ha1, ha2, ha3⟩ := HD6.out.in_; obtain ⟨hx0, hx1, hx2, hy0, hy1, hy2, hxf, hyf⟩ := HD6.out.mid))
       go_meet
       case rel => exact ⟨_, _, rfl, rfl, ⟨DS.sety3 HD6.out (.int .u64 x1) (.int .u64 x2) (.slice Ay y3.length cy)⟩, ⟨vy3 HD6.out HVX6.out _ _ _⟩, ⟨vy3 HD6.out HVY.out _ _ _⟩⟩
      ·rw [if_neg c3] at hq
       have cb3 : (kk == 5) = false := beq_eq_false_iff_ne.2 c3
       by_cases c4 : kk < 10
       ·rw [if_pos c4] at hq
        have cb4 := decide_eq_true c4
        obtain ⟨kd, hkd, hq⟩ := Option.bind_eq_some_iff.1 hq
        have HKD := Lib.hid hkd
        clear hkd
        obtain ⟨⟨q1, q2, q3, q4⟩, hX, hq⟩ := Option.bind_eq_some_iff.1 hq
        obtain ⟨⟨p1, p2, p3, p4⟩, hY, hq⟩ := Option.bind_eq_some_iff.1 hq
        simp only [Option.some.injEq, Prod.mk.injEq] at hq
        obtain ⟨h1, h2, h3, h4, h5, h6, h7, h8⟩ := hq
        rw [h1, h2, h3, h4] at hX
        rw [h5, h6, h7, h8] at hY
        have HX := Lib.hid hX
        have HY := Lib.hid hY
        clear hX hY h1 h2 h3 h4 h5 h6 h7 h8
        have HF := Aside0.mk (fun W (hb : Below xb wc W) => show W.cell? ⟨w.heap.size, 0, none⟩ = some (.int .u64 a0_0) ∧ W.cell? ⟨w.heap.size, 1, none⟩ = some (.int .u64 a0_1) ∧ W.cell? ⟨w.heap.size, 2, none⟩ = some (.slice A0_2 l0_2.length c0_2) ∧ W.cell? ⟨w.heap.size + 1 + 1, 2, none⟩ = some (.int .i64 a2_2) ∧ W.cell? ⟨w.heap.size + 1 + 1, 3, none⟩ = some (.int .i64 a2_3) from ⟨(hb.cell (p := ⟨w.heap.size, 0, none⟩) (show w.heap.size < xb by have := HD3.out.ge; omega)).trans hl0, (hb.cell (p := ⟨w.heap.size, 1, none⟩) (show w.heap.size < xb by have := HD3.out.ge; omega)).trans hl1, (hb.cell (p := ⟨w.heap.size, 2, none⟩) (show w.heap.size < xb by have := HD3.out.ge; omega)).trans hl2, (hb.cell (p := ⟨w.heap.size + 1 + 1, 2, none⟩) (show w.heap.size + 1 + 1 < xb by have := HD3.out.ge; omega)).trans ha2, (hb.cell (p := ⟨w.heap.size + 1 + 1, 3, none⟩) (show w.heap.size + 1 + 1 < xb by have := HD3.out.ge; omega)).trans ha3⟩)
        have hI : Below xb wc wc := Below.refl _ _
        have hI0 : Below wc.heap.size wc wc := Below.refl _ _
        have HXB := Aside0.mk (show xb ≤ wc.heap.size ∧ yb ≤ wc.heap.size by have h1 := HD3.out.lt; have h2 := HD3.out.ge; omega)
        clear hl0 hl1 hl2 hr0 hr1 hr2 ha0 ha1 ha2 ha3 hx0 hx1 hx2 hy0 hy1 hy2 hxf hyf
        go_wp2_with fail
        go_region_held3 (fun W => W.cell? ⟨w.heap.size, 0, none⟩ = some (.int .u64 a0_0) ∧ W.cell? ⟨w.heap.size, 1, none⟩ = some (.int .u64 a0_1) ∧ W.cell? ⟨w.heap.size, 2, none⟩ = some (.slice A0_2 l0_2.length c0_2) ∧ W.cell? ⟨w.heap.size + 1 + 1, 2, none⟩ = some (.int .i64 a2_2) ∧ W.cell? ⟨w.heap.size + 1 + 1, 3, none⟩ = some (.int .i64 a2_3))
         (exact HF.out _ (by repeat (first | (with_reducible exact hI) | (with_reducible apply below_drew) | (with_reducible refine Below.setCell ?_ (by exact Nat.le_refl _) _))))
         (first
          | (go_at_call 42; (with_reducible refine (postroomlaw10_kind.calls a2_3 kd _ HKD.out).mono ?_); rintro e w8 ⟨rfl, hd8⟩; have hb8 := hd8.below; clear hd8; have n0_ := below_stepX (by repeat (first | (with_reducible exact hI) | (with_reducible apply below_drew) | (with_reducible refine Below.setCell ?_ (by exact Nat.le_refl _) _))) HXB.out.1 hb8; have n1_ := below_step (by repeat (first | (with_reducible exact hI0) | (with_reducible apply below_drew))) hb8; clear hI hI0 hb8; have hI := n0_; have hI0 := n1_; clear n0_ n1_)
          | (go_at_call 20; (with_reducible refine (ledger_Done.calls k a0_0 a0_1 (fun k_ => P0_2_ k_ ∧ k_ < w.heap.size) A0_2 c0_2 l0_2 nm (IntKind.u64.wrap a2_2) kd x1 x2 x3 ee _ ?side1 HX.out).mono ?_); (case side1 => exact (Kd.V_below HV0.out (below_step HD3.out.below (by repeat (first | (with_reducible exact hI0) | (with_reducible apply below_drew)))))); rintro e w8 ⟨vx, rfl, hVx, hb8⟩; obtain ⟨Ax, cx, rfl⟩ := Kd.V_slice hVx; have hge4 := HD3.out.lt; have hge5 := ((by repeat (first | (with_reducible exact hI0) | (with_reducible apply below_drew))) : Below wc.heap.size wc _).size; have HVX := Aside0.mk (Kd.V_mono (ok' := fun k_ => (P0_2_ k_ ∧ k_ < w.heap.size) ∨ yb < k_) hVx (fun k_ hk_ => by rcases hk_ with h_ | h_; exact .inl h_; exact .inr (by omega))); have n0_ := below_stepX (by repeat (first | (with_reducible exact hI) | (with_reducible apply below_drew) | (with_reducible refine Below.setCell ?_ (by exact Nat.le_refl _) _))) HXB.out.1 hb8; have n1_ := below_step (by repeat (first | (with_reducible exact hI0) | (with_reducible apply below_drew))) hb8; clear hI hI0 hb8; have hI := n0_; have hI0 := n1_; clear n0_ n1_; have HD4 := Aside0.mk (HD3.out.step hI0); obtain ⟨hx0, hx1, hx2, hy0, hy1, hy2, hxf, hyf⟩ := HD4.out.mid; clear hVx hge4 hge5))
        have HD5 := Aside0.mk (DS.setx3 HD4.out (.int .u64 x1) (.int .u64 x2) (.slice Ax x3.length cx))
        have HVX5 := Aside0.mk (vx3 HD4.out HVX.out (.int .u64 x1) (.int .u64 x2) (.slice Ax x3.length cx))
        clear hI hI0 hx0 hx1 hx2 hy0 hy1 hy2 hxf hyf HF
        generalize (((w8.setCell ⟨xb, 0, none⟩ (.int .u64 x1)).setCell ⟨xb, 1, none⟩ (.int .u64 x2)).setCell ⟨xb, 2, none⟩ (.slice Ax x3.length cx)) = wq at HD5 HVX5 ⊢
        obtain ⟨hl0, hl1, hl2, hr0, hr1, hr2, ha0, ha1, ha2, ha3⟩ := HD5.out.in_
        have HF := Aside0.mk (fun W (hb : Below yb wq W) => show W.cell? ⟨w.heap.size + 1, 0, none⟩ = some (.int .u64 a1_0) ∧ W.cell? ⟨w.heap.size + 1, 1, none⟩ = some (.int .u64 a1_1) ∧ W.cell? ⟨w.heap.size + 1, 2, none⟩ = some (.slice A1_2 l1_2.length c1_2) ∧ W.cell? ⟨w.heap.size + 1 + 1, 2, none⟩ = some (.int .i64 a2_2) ∧ W.cell? ⟨w.heap.size + 1 + 1, 3, none⟩ = some (.int .i64 a2_3) from ⟨(hb.cell (p := ⟨w.heap.size + 1, 0, none⟩) (show w.heap.size + 1 < yb by have := HD5.out.ge; omega)).trans hr0, (hb.cell (p := ⟨w.heap.size + 1, 1, none⟩) (show w.heap.size + 1 < yb by have := HD5.out.ge; omega)).trans hr1, (hb.cell (p := ⟨w.heap.size + 1, 2, none⟩) (show w.heap.size + 1 < yb by have := HD5.out.ge; omega)).trans hr2, (hb.cell (p := ⟨w.heap.size + 1 + 1, 2, none⟩) (show w.heap.size + 1 + 1 < yb by have := HD5.out.ge; omega)).trans ha2, (hb.cell (p := ⟨w.heap.size + 1 + 1, 3, none⟩) (show w.heap.size + 1 + 1 < yb by have := HD5.out.ge; omega)).trans ha3⟩)
        have hI : Below yb wq wq := Below.refl _ _
        have hI0 : Below wq.heap.size wq wq := Below.refl _ _
        have HXB2 := Aside0.mk (show yb ≤ wq.heap.size by have h1 := HD5.out.lt; omega)
        clear hl0 hl1 hl2 hr0 hr1 hr2 ha0 ha1 ha2 ha3
        go_wp2_with fail
        go_region_held3 (fun W => W.cell? ⟨w.heap.size + 1, 0, none⟩ = some (.int .u64 a1_0) ∧ W.cell? ⟨w.heap.size + 1, 1, none⟩ = some (.int .u64 a1_1) ∧ W.cell? ⟨w.heap.size + 1, 2, none⟩ = some (.slice A1_2 l1_2.length c1_2) ∧ W.cell? ⟨w.heap.size + 1 + 1, 2, none⟩ = some (.int .i64 a2_2) ∧ W.cell? ⟨w.heap.size + 1 + 1, 3, none⟩ = some (.int .i64 a2_3))
         (exact HF.out _ (by repeat (first | (with_reducible exact hI) | (with_reducible apply below_drew) | (with_reducible refine Below.setCell ?_ (by exact Nat.le_refl _) _))))
         (first
          | (go_at_call 42; (with_reducible refine (postroomlaw10_kind.calls a2_3 kd _ HKD.out).mono ?_); rintro e w9 ⟨rfl, hd8⟩; have hb8 := hd8.below; clear hd8; have n0_ := below_stepX (by repeat (first | (with_reducible exact hI) | (with_reducible apply below_drew) | (with_reducible refine Below.setCell ?_ (by exact Nat.le_refl _) _))) HXB2.out hb8; have n1_ := below_step (by repeat (first | (with_reducible exact hI0) | (with_reducible apply below_drew))) hb8; clear hI hI0 hb8; have hI := n0_; have hI0 := n1_; clear n0_ n1_)
          | (go_at_call 43; (with_reducible refine (postroomref10_Done.calls k a1_0 a1_1 A1_2 c1_2 l1_2 nm (IntKind.u64.wrap a2_2) kd x1 x2 y3 ee _ ?side1 ?side2 HY.out).mono ?_); (case side1 => exact (Kd.V_reads' (Kd.V_below HV1.out (below_step HD5.out.below (by repeat (first | (with_reducible exact hI0) | (with_reducible apply below_drew)))))).2.2); (case side2 => exact (Kd.V_reads' HV1.out).2.1); rintro e w9 ⟨vy, rfl, hSy, hb8⟩; have hVy := Kd.S_V (base' := w.heap.size) (Kd.S_bound hSy); obtain ⟨Ay, cy, rfl⟩ := Kd.V_slice hVy; have hge4 := HD5.out.lt; have hge5 := ((by repeat (first | (with_reducible exact hI0) | (with_reducible apply below_drew))) : Below wq.heap.size wq _).size; have HVY := Aside0.mk (Kd.V_mono (ok' := fun k_ => (P1_2_ k_ ∧ k_ < w.heap.size) ∨ yb < k_) hVy (fun k_ hk_ => .inr (by have := hk_.2.1; omega))); have n0_ := below_stepX (by repeat (first | (with_reducible exact hI) | (with_reducible apply below_drew) | (with_reducible refine Below.setCell ?_ (by exact Nat.le_refl _) _))) HXB2.out hb8; have n1_ := below_step (by repeat (first | (with_reducible exact hI0) | (with_reducible apply below_drew))) hb8; clear hI hI0 hb8; have hI := n0_; have hI0 := n1_; clear n0_ n1_; have HD6 := Aside0.mk (HD5.out.step hI0); have HVX6 := Aside0.mk (Kd.V_below HVX5.out hI0); obtain ⟨hx0, hx1, hx2, hy0, hy1, hy2, hxf, hyf⟩ := HD6.out.mid; clear hSy hVy hge4 hge5))
        go_wp2
        go_meet
        case rel => exact ⟨_, _, rfl, rfl, ⟨DS.sety3 HD6.out (.int .u64 x1) (.int .u64 x2) (.slice Ay y3.length cy)⟩, ⟨vy3 HD6.out HVX6.out _ _ _⟩, ⟨vy3 HD6.out HVY.out _ _ _⟩⟩
       ·rw [if_neg c4] at hq
        have cb4 := decide_eq_false c4
        obtain ⟨⟨q1, q2, q3, q4⟩, hX, hq⟩ := Option.bind_eq_some_iff.1 hq
        obtain ⟨⟨p1, p2, p3, p4⟩, hY, hq⟩ := Option.bind_eq_some_iff.1 hq
        simp only [Option.some.injEq, Prod.mk.injEq] at hq
        obtain ⟨h1, h2, h3, h4, h5, h6, h7, h8⟩ := hq
        rw [h1, h2, h3, h4] at hX
        rw [h5, h6, h7, h8] at hY
        have HX := Lib.hid hX
        have HY := Lib.hid hY
        clear hX hY h1 h2 h3 h4 h5 h6 h7 h8
        go_wp2_with (first
         | (go_at_call 23; (with_reducible refine (ledger_Evict.calls k a0_0 a0_1 (fun k_ => P0_2_ k_ ∧ k_ < w.heap.size) A0_2 c0_2 l0_2 (IntKind.u64.wrap a2_2) x1 x2 x3 ee _ ?side1 HX.out).mono ?_); (case side1 => exact (Kd.V_below HV0.out HD3.out.below)); rintro e w4 ⟨vx, rfl, hNx, hb4⟩; have hVx := hNx; obtain ⟨Ax, cx, rfl⟩ := Kd.V_slice hVx; have hge4 := HD3.out.lt; have HVX := Aside0.mk (Kd.V_mono (ok' := fun k_ => (P0_2_ k_ ∧ k_ < w.heap.size) ∨ yb < k_) hVx (fun k_ hk_ => by rcases hk_ with h_ | h_; exact .inl h_; exact .inr (by omega))); have HD4 := Aside0.mk (HD3.out.step hb4); clear hNx hVx hb4 hge4 hl0 hl1 hl2 hr0 hr1 hr2 ha0 ha1 ha2 ha3 hx0 hx1 hx2 hy0 hy1 hy2 hxf hyf; obtain ⟨hl0, hl1, hl2, hr0, hr1, hr2, ha0, ha1, ha2, ha3⟩ := HD4.out.in_; obtain ⟨hx0, hx1, hx2, hy0, hy1, hy2, hxf, hyf⟩ := HD4.out.mid)
         | (go_at_call 44; have HD5 := Aside0.mk (DS.setx3 HD4.out (.int .u64 x1) (.int .u64 x2) (.slice Ax x3.length cx)); have hge5 := HD5.out.lt; (with_reducible refine (postroomref10_Evict.calls k a1_0 a1_1 A1_2 c1_2 l1_2 (IntKind.u64.wrap a2_2) x1 x2 y3 ee _ ?side1 ?side2 HY.out).mono ?_); (case side1 => exact (Kd.V_reads' (Kd.V_below HV1.out HD5.out.below)).2.2); (case side2 => exact (Kd.V_reads' HV1.out).2.1); rintro e w6 ⟨vy, rfl, hSy, hb6⟩; have hVy := Kd.S_V (base' := w.heap.size) (Kd.S_bound hSy); obtain ⟨Ay, cy, rfl⟩ := Kd.V_slice hVy; have HVY := Aside0.mk (Kd.V_mono (ok' := fun k_ => (P1_2_ k_ ∧ k_ < w.heap.size) ∨ yb < k_) hVy (fun k_ hk_ => .inr (by have := hk_.2.1; omega))); have hVx2 := Kd.V_below (vx3 HD4.out HVX.out (.int .u64 x1) (.int .u64 x2) (.slice Ax x3.length cx)) hb6; have HVX6 := Aside0.mk hVx2; have HD6 := Aside0.mk (HD5.out.step hb6); clear hSy hVy hb6 hge5 hVx2 hl0 hl1 hl2 hr0 hr1 hr2 ha0 ha1 ha2 ha3 hx0 hx1 hx2 hy0 hy1 hy2 hxf hyf; obtain ⟨hl0, hl1, hl2, hr0, hr1, hr2, ha0, ha1, ha2, ha3⟩ := HD6.out.in_; obtain ⟨hx0, hx1, hx2, hy0, hy1, hy2, hxf, hyf⟩ := HD6.out.mid))
        go_meet
        case rel => exact ⟨_, _, rfl, rfl, ⟨DS.sety3 HD6.out (.int .u64 x1) (.int .u64 x2) (.slice Ay y3.length cy)⟩, ⟨vy3 HD6.out HVX6.out _ _ _⟩, ⟨vy3 HD6.out HVY.out _ _ _⟩⟩
   case rest =>
    obtain ⟨vx, vy, rfl, rfl, HD7, HVX7, HVY7⟩ := hcut
    obtain ⟨Ax, cx, rfl⟩ := Kd.V_slice HVX7.out
    obtain ⟨Ay, cy, rfl⟩ := Kd.V_slice HVY7.out
    obtain ⟨hx0, hx1, hx2, hy0, hy1, hy2, hxf, hyf⟩ := HD7.out.mid
    have HHe := HH
    by_cases ce : ee = 0
    ·have hh := HH.out
     rw [if_pos ce] at hh
     subst ce
     simp only [Option.some.injEq, Prod.mk.injEq] at hh
     obtain ⟨rfl, rfl, rfl, rfl, rfl, rfl, rfl⟩ := hh
     clear hn3 HQ HH HHe
     go_wp2_with (go_at_call 45; (with_reducible refine (postroomlaw10_as.calls k x1 x2 Ax cx x3 Ay cy y3 _ ?side1 ?side2 ?side3 ?side4 HAS.out).mono ?_); (case side1 => exact (Kd.V_reads' HVX7.out).2.2); (case side2 => exact (Kd.V_reads' HVX7.out).2.1); (case side3 => exact (Kd.V_reads' HVY7.out).2.2); (case side4 => exact (Kd.V_reads' HVY7.out).2.1); rintro e w8 ⟨rfl, hb8⟩; have HD8 := Aside0.mk (HD7.out.step hb8); have HVX8 := Aside0.mk (Kd.V_below HVX7.out hb8); have HVY8 := Aside0.mk (Kd.V_below HVY7.out hb8); clear hb8 hx0 hx1 hx2 hy0 hy1 hy2 hxf hyf)
     have HF := Aside0.mk (fun (W : World) (h0 : W.heap[xb]? = w8.heap[xb]?) (h1 : W.heap[yb]? = w8.heap[yb]?) => show W.cell? ⟨xb, 0, none⟩ = some (.int .u64 x1) ∧ W.cell? ⟨xb, 1, none⟩ = some (.int .u64 x2) ∧ W.cell? ⟨xb, 2, none⟩ = some (.slice Ax x3.length cx) ∧ W.cell? ⟨yb, 0, none⟩ = some (.int .u64 x1) ∧ W.cell? ⟨yb, 1, none⟩ = some (.int .u64 x2) ∧ W.cell? ⟨yb, 2, none⟩ = some (.slice Ay y3.length cy) from ⟨(blk_cell (h0.trans HD8.out.bx) 0).trans rfl, (blk_cell (h0.trans HD8.out.bx) 1).trans rfl, (blk_cell (h0.trans HD8.out.bx) 2).trans rfl, (blk_cell (h1.trans HD8.out.bz) 0).trans rfl, (blk_cell (h1.trans HD8.out.bz) 1).trans rfl, (blk_cell (h1.trans HD8.out.bz) 2).trans rfl⟩)
     have HNE := Aside0.mk (show xb ≠ w.heap.size + 1 + 1 + 1 ∧ xb ≠ w.heap.size + 1 + 1 + 1 + 1 ∧ yb ≠ w.heap.size + 1 + 1 + 1 ∧ yb ≠ w.heap.size + 1 + 1 + 1 + 1 by have := HD8.out.ge; omega)
     have hz0 : w8.cell? ⟨w.heap.size + 1 + 1 + 1, 0, none⟩ = some (.int .u64 0) := (blk_cell HD8.out.b3 0).trans rfl
     have hz1 : w8.cell? ⟨w.heap.size + 1 + 1 + 1, 1, none⟩ = some (.int .u64 0) := (blk_cell HD8.out.b3 1).trans rfl
     have hz2 : w8.cell? ⟨w.heap.size + 1 + 1 + 1, 2, none⟩ = some (.slice none 0 0) := (blk_cell HD8.out.b3 2).trans rfl
     have hu0 : w8.cell? ⟨w.heap.size + 1 + 1 + 1 + 1, 0, none⟩ = some (.int .u64 0) := (blk_cell HD8.out.b4 0).trans rfl
     have hu1 : w8.cell? ⟨w.heap.size + 1 + 1 + 1 + 1, 1, none⟩ = some (.int .u64 0) := (blk_cell HD8.out.b4 1).trans rfl
     have hu2 : w8.cell? ⟨w.heap.size + 1 + 1 + 1 + 1, 2, none⟩ = some (.slice none 0 0) := (blk_cell HD8.out.b4 2).trans rfl
     have hzf := blk_frozen HD8.out.b3
     have huf := blk_frozen HD8.out.b4
     go_wp2_with fail
     go_region_held3 (fun W => W.cell? ⟨xb, 0, none⟩ = some (.int .u64 x1) ∧ W.cell? ⟨xb, 1, none⟩ = some (.int .u64 x2) ∧ W.cell? ⟨xb, 2, none⟩ = some (.slice Ax x3.length cx) ∧ W.cell? ⟨yb, 0, none⟩ = some (.int .u64 x1) ∧ W.cell? ⟨yb, 1, none⟩ = some (.int .u64 x2) ∧ W.cell? ⟨yb, 2, none⟩ = some (.slice Ay y3.length cy))
      (exact HF.out _ (by repeat (first | (with_reducible exact rfl) | (with_reducible refine (drew_heap _ _).trans ?_) | ((with_reducible refine (Below.heap_setCell _ _ _ _ ?_).trans ?_); (first | exact HNE.out.1 | exact HNE.out.2.1)))) (by repeat (first | (with_reducible exact rfl) | (with_reducible refine (drew_heap _ _).trans ?_) | ((with_reducible refine (Below.heap_setCell _ _ _ _ ?_).trans ?_); (first | exact HNE.out.2.2.1 | exact HNE.out.2.2.2)))))
      (fail)
     clear hz0 hz1 hz2 hu0 hu1 hu2 hzf huf HF
     have hfin := Aside0.mk (fin_a HD8.out.b3 HD8.out.b4 (Nat.ne_of_lt (Nat.lt_succ_self _)) (.int .u64 x1) (.int .u64 x2) (.slice Ax x3.length cx) (.int .u64 x1) (.int .u64 x2) (.slice Ay y3.length cy))
     generalize ((((((w8.setCell ⟨w.heap.size + 1 + 1 + 1, 0, none⟩ (.int .u64 x1)).setCell ⟨w.heap.size + 1 + 1 + 1, 1, none⟩ (.int .u64 x2)).setCell ⟨w.heap.size + 1 + 1 + 1, 2, none⟩ (.slice Ax x3.length cx)).setCell ⟨w.heap.size + 1 + 1 + 1 + 1, 0, none⟩ (.int .u64 x1)).setCell ⟨w.heap.size + 1 + 1 + 1 + 1, 1, none⟩ (.int .u64 x2)).setCell ⟨w.heap.size + 1 + 1 + 1 + 1, 2, none⟩ (.slice Ay y3.length cy)) = w9 at hfin ⊢
     go_wp2
     have hbf := hfin.out.below w (by omega) (by omega) HD8.out.below
     refine bodyPost_ret (results_cct rfl _ _ (w.heap.size + 1 + 1 + 1) (w.heap.size + 1 + 1 + 1 + 1) 27 57 #[(.int .u64 x1), (.int .u64 x2), (.slice Ax x3.length cx)] #[(.int .u64 x1), (.int .u64 x2), (.slice Ay y3.length cy)] (0, 0) (0, 0) _ _ rfl (blk_drew hfin.out.h3) Tryd.underlying27 rfl (by kernel_rfl) rfl (blk_drew hfin.out.h4) Tryd.underlying57 rfl (by kernel_rfl)) rfl ?_
     exact ⟨_, _, rfl, Kd.V_drew (Kd.V_mono (Kd.V_step (HVX8.out) (fun k_ hk_ _ => hfin.out.far k_ (by have := HD8.out.ge; omega) (by have := HD8.out.ge; omega))) (fun k_ hk_ => by rcases hk_ with h_ | h_; exact .inl (.inl h_.1); exact .inr (by have := HD8.out.ge; omega))), Kd.V_drew (Kd.V_mono (Kd.V_step (HVY8.out) (fun k_ hk_ _ => hfin.out.far k_ (by have := HD8.out.ge; omega) (by have := HD8.out.ge; omega))) (fun k_ hk_ => by rcases hk_ with h_ | h_; exact .inl (.inr h_.1); exact .inr (by have := HD8.out.ge; omega))), below_drew hbf⟩
    ·have hh := HH.out
     rw [if_neg ce] at hh
     have cb := (bne_iff_ne (a := ee) (b := 0)).2 ce
     simp only [Option.some.injEq, Prod.mk.injEq] at hh
     obtain ⟨rfl, rfl, rfl, rfl, rfl, rfl, rfl⟩ := hh
     clear hn3 HQ HH HHe
     go_wp2_with (go_at_call 45; (with_reducible refine (postroomlaw10_as.calls k x1 x2 Ax cx x3 Ay cy y3 _ ?side1 ?side2 ?side3 ?side4 HAS.out).mono ?_); (case side1 => exact (Kd.V_reads' HVX7.out).2.2); (case side2 => exact (Kd.V_reads' HVX7.out).2.1); (case side3 => exact (Kd.V_reads' HVY7.out).2.2); (case side4 => exact (Kd.V_reads' HVY7.out).2.1); rintro e w8 ⟨rfl, hb8⟩; have HD8 := Aside0.mk (HD7.out.step hb8); have HVX8 := Aside0.mk (Kd.V_below HVX7.out hb8); have HVY8 := Aside0.mk (Kd.V_below HVY7.out hb8); clear hb8 hx0 hx1 hx2 hy0 hy1 hy2 hxf hyf)
     have HF := Aside0.mk (fun (W : World) (h0 : W.heap[w.heap.size]? = w8.heap[w.heap.size]?) (h1 : W.heap[w.heap.size + 1]? = w8.heap[w.heap.size + 1]?) => show W.cell? ⟨w.heap.size, 0, none⟩ = some (.int .u64 a0_0) ∧ W.cell? ⟨w.heap.size, 1, none⟩ = some (.int .u64 a0_1) ∧ W.cell? ⟨w.heap.size, 2, none⟩ = some (.slice A0_2 l0_2.length c0_2) ∧ W.cell? ⟨w.heap.size + 1, 0, none⟩ = some (.int .u64 a1_0) ∧ W.cell? ⟨w.heap.size + 1, 1, none⟩ = some (.int .u64 a1_1) ∧ W.cell? ⟨w.heap.size + 1, 2, none⟩ = some (.slice A1_2 l1_2.length c1_2) from ⟨(blk_cell (h0.trans HD8.out.b0) 0).trans rfl, (blk_cell (h0.trans HD8.out.b0) 1).trans rfl, (blk_cell (h0.trans HD8.out.b0) 2).trans rfl, (blk_cell (h1.trans HD8.out.b1) 0).trans rfl, (blk_cell (h1.trans HD8.out.b1) 1).trans rfl, (blk_cell (h1.trans HD8.out.b1) 2).trans rfl⟩)
     have HNE := Aside0.mk (show w.heap.size ≠ w.heap.size + 1 + 1 + 1 ∧ w.heap.size ≠ w.heap.size + 1 + 1 + 1 + 1 ∧ w.heap.size + 1 ≠ w.heap.size + 1 + 1 + 1 ∧ w.heap.size + 1 ≠ w.heap.size + 1 + 1 + 1 + 1 by have := HD8.out.ge; omega)
     have hz0 : w8.cell? ⟨w.heap.size + 1 + 1 + 1, 0, none⟩ = some (.int .u64 0) := (blk_cell HD8.out.b3 0).trans rfl
     have hz1 : w8.cell? ⟨w.heap.size + 1 + 1 + 1, 1, none⟩ = some (.int .u64 0) := (blk_cell HD8.out.b3 1).trans rfl
     have hz2 : w8.cell? ⟨w.heap.size + 1 + 1 + 1, 2, none⟩ = some (.slice none 0 0) := (blk_cell HD8.out.b3 2).trans rfl
     have hu0 : w8.cell? ⟨w.heap.size + 1 + 1 + 1 + 1, 0, none⟩ = some (.int .u64 0) := (blk_cell HD8.out.b4 0).trans rfl
     have hu1 : w8.cell? ⟨w.heap.size + 1 + 1 + 1 + 1, 1, none⟩ = some (.int .u64 0) := (blk_cell HD8.out.b4 1).trans rfl
     have hu2 : w8.cell? ⟨w.heap.size + 1 + 1 + 1 + 1, 2, none⟩ = some (.slice none 0 0) := (blk_cell HD8.out.b4 2).trans rfl
     have hzf := blk_frozen HD8.out.b3
     have huf := blk_frozen HD8.out.b4
     go_wp2_with fail
     go_region_held3 (fun W => W.cell? ⟨w.heap.size, 0, none⟩ = some (.int .u64 a0_0) ∧ W.cell? ⟨w.heap.size, 1, none⟩ = some (.int .u64 a0_1) ∧ W.cell? ⟨w.heap.size, 2, none⟩ = some (.slice A0_2 l0_2.length c0_2) ∧ W.cell? ⟨w.heap.size + 1, 0, none⟩ = some (.int .u64 a1_0) ∧ W.cell? ⟨w.heap.size + 1, 1, none⟩ = some (.int .u64 a1_1) ∧ W.cell? ⟨w.heap.size + 1, 2, none⟩ = some (.slice A1_2 l1_2.length c1_2))
      (exact HF.out _ (by repeat (first | (with_reducible exact rfl) | (with_reducible refine (drew_heap _ _).trans ?_) | ((with_reducible refine (Below.heap_setCell _ _ _ _ ?_).trans ?_); (first | exact HNE.out.1 | exact HNE.out.2.1)))) (by repeat (first | (with_reducible exact rfl) | (with_reducible refine (drew_heap _ _).trans ?_) | ((with_reducible refine (Below.heap_setCell _ _ _ _ ?_).trans ?_); (first | exact HNE.out.2.2.1 | exact HNE.out.2.2.2)))))
      (fail)
     clear hz0 hz1 hz2 hu0 hu1 hu2 hzf huf HF
     have hfin := Aside0.mk (fin_a HD8.out.b3 HD8.out.b4 (Nat.ne_of_lt (Nat.lt_succ_self _)) (.int .u64 a0_0) (.int .u64 a0_1) (.slice A0_2 l0_2.length c0_2) (.int .u64 a1_0) (.int .u64 a1_1) (.slice A1_2 l1_2.length c1_2))
     generalize ((((((w8.setCell ⟨w.heap.size + 1 + 1 + 1, 0, none⟩ (.int .u64 a0_0)).setCell ⟨w.heap.size + 1 + 1 + 1, 1, none⟩ (.int .u64 a0_1)).setCell ⟨w.heap.size + 1 + 1 + 1, 2, none⟩ (.slice A0_2 l0_2.length c0_2)).setCell ⟨w.heap.size + 1 + 1 + 1 + 1, 0, none⟩ (.int .u64 a1_0)).setCell ⟨w.heap.size + 1 + 1 + 1 + 1, 1, none⟩ (.int .u64 a1_1)).setCell ⟨w.heap.size + 1 + 1 + 1 + 1, 2, none⟩ (.slice A1_2 l1_2.length c1_2)) = w9 at hfin ⊢
     go_wp2
     have hbf := hfin.out.below w (by omega) (by omega) HD8.out.below
     refine bodyPost_ret (results_cct rfl _ _ (w.heap.size + 1 + 1 + 1) (w.heap.size + 1 + 1 + 1 + 1) 27 57 #[(.int .u64 a0_0), (.int .u64 a0_1), (.slice A0_2 l0_2.length c0_2)] #[(.int .u64 a1_0), (.int .u64 a1_1), (.slice A1_2 l1_2.length c1_2)] (0, 0) (0, 0) _ _ rfl (blk_drew hfin.out.h3) Tryd.underlying27 rfl (by kernel_rfl) rfl (blk_drew hfin.out.h4) Tryd.underlying57 rfl (by kernel_rfl)) rfl ?_
     exact ⟨_, _, rfl, Kd.V_drew (Kd.V_mono (Kd.V_below HV0.out hbf) (fun k_ hk_ => .inl (.inl hk_.1))), Kd.V_drew (Kd.V_mono (Kd.V_below HV1.out hbf) (fun k_ hk_ => .inl (.inr hk_.1))), below_drew hbf⟩
 ·cases h
end Go.Proofs.YthhmpjapnkilcaaDoor.XLdg
