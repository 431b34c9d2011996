/- Two boxes of ledgers in memory, a call's own (the ledger that came in, the one that goes out), while memory grows. Conditions: none. -/
import Derived.Test.YtmbigoeldobaiaaDoorGDone
import Derived.Test.YtmbigoeldobaiaaDoorGPlace
namespace Go.Proofs.YtmbigoeldobaiaaDoor.XMrk
open Go Go.RowKit Go.Proofs.YtmbigoeldobaiaaDoorW.PrintWords Go.Proofs.YtmbigoeldobaiaaDoorW.PrintLast Go.Proofs.YtmbigoeldobaiaaDoorW.PrintMore Go.Proofs.YtmbigoeldobaiaaDoor.Num
set_option linter.unusedVariables false
structure LB (w : World) (b r : Nat) (lb lr : Array Value) (W : World) : Prop where
 below : Below w.heap.size w W
 ge : w.heap.size ≤ b ∧ w.heap.size ≤ r ∧ b ≠ r
 box : W.heap[b]? = some (.cells lb 25 (0, 0))
 res : W.heap[r]? = some (.cells lr 25 (0, 0))
variable {w W W' : World} {b r g : Nat} {lb lr : Array Value}
theorem LB.start (w : World) (lb lr : Array Value) : LB w w.heap.size (w.heap.size + 1) lb lr ((w.alloc (.cells lb 25)).alloc (.cells lr 25)) :=
 ⟨below_alloc (below_alloc (Below.refl _ _) _) _, ⟨Nat.le_refl _, Nat.le_succ _, Nat.ne_of_lt (Nat.lt_succ_self _)⟩, blk_alloc (blk_new w _) _, by simpa using blk_new (w.alloc (.cells lb 25)) (.cells lr 25)⟩
theorem LB.step (h : LB w b r lb lr W) (hb : Below W.heap.size W W') : LB w b r lb lr W' :=
 ⟨below_step h.below hb, h.ge, blk_below h.box hb, blk_below h.res hb⟩
theorem LB.alloc (h : LB w b r lb lr W) (o : Obj) : LB w b r lb lr (W.alloc o) := h.step (below_alloc (Below.refl _ _) o)
theorem LB.far (h : LB w b r lb lr W) (hg : w.heap.size ≤ g) (h1 : b ≠ g) (h2 : r ≠ g) (j : Nat) (u : Value) : LB w b r lb lr (W.setCell ⟨g, j, none⟩ u) :=
 ⟨h.below.setCell (p := ⟨g, j, none⟩) hg u, h.ge, blk_far h.box h1 u, blk_far h.res h2 u⟩
theorem LB.setb {lb' : Array Value} (h : LB w b r lb lr W) (j : Nat) (u : Value) (e : lb.setIfInBounds j u = lb') : LB w b r lb' lr (W.setCell ⟨b, j, none⟩ u) :=
 ⟨h.below.setCell (p := ⟨b, j, none⟩) h.ge.1 u, h.ge, blk_put h.box j u e, blk_far h.res (fun e => h.ge.2.2 e.symm) u⟩
theorem LB.setr {lr' : Array Value} (h : LB w b r lb lr W) (j : Nat) (u : Value) (e : lr.setIfInBounds j u = lr') : LB w b r lb lr' (W.setCell ⟨r, j, none⟩ u) :=
 ⟨h.below.setCell (p := ⟨r, j, none⟩) h.ge.2.1 u, h.ge, blk_far h.box h.ge.2.2 u, blk_put h.res j u e⟩
theorem LB.setr3 {y0 y1 y2 : Value} (h : LB w b r lb #[y0, y1, y2] W) (x0 x1 x2 : Value) : LB w b r lb #[x0, x1, x2] (((W.setCell ⟨r, 0, none⟩ x0).setCell ⟨r, 1, none⟩ x1).setCell ⟨r, 2, none⟩ x2) := by
 have h0 := LB.setr (lr' := #[x0, y1, y2]) h 0 x0 rfl
 have h1 := LB.setr (lr' := #[x0, x1, y2]) h0 1 x1 rfl
 exact LB.setr (lr' := #[x0, x1, x2]) h1 2 x2 rfl
theorem LB.cells {x0 x1 x2 y0 y1 y2 : Value} (h : LB w b r #[x0, x1, x2] #[y0, y1, y2] W) :
  W.cell? ⟨b, 0, none⟩ = some x0 ∧ W.cell? ⟨b, 1, none⟩ = some x1 ∧ W.cell? ⟨b, 2, none⟩ = some x2 ∧ W.cell? ⟨r, 0, none⟩ = some y0 ∧ W.cell? ⟨r, 1, none⟩ = some y1 ∧ W.cell? ⟨r, 2, none⟩ = some y2 ∧
  (∀ j, W.frozen? ⟨b, j, none⟩ = false) ∧ (∀ j, W.frozen? ⟨r, j, none⟩ = false) :=
 ⟨(blk_cell h.box 0).trans rfl, (blk_cell h.box 1).trans rfl, (blk_cell h.box 2).trans rfl, (blk_cell h.res 0).trans rfl, (blk_cell h.res 1).trans rfl, (blk_cell h.res 2).trans rfl, blk_frozen h.box, blk_frozen h.res⟩
theorem LB.lt (h : LB w b r lb lr W) : b < W.heap.size ∧ r < W.heap.size := ⟨blk_lt h.box, blk_lt h.res⟩
/-- An element of a row of destinations is stored anew. -/
theorem row_store7 {base n cap c3 : Nat} {ok okp : Nat → Prop} {ds : List D} {i : Int} {x : D} {A3 : Option Addr} (h : Kd.N k55 55 W base ok (.slice (some ⟨g, 0, none⟩) n cap) ds) (h0 : 0 ≤ i) (h1 : i < n) (l3 : x.f3.length ≤ c3) (hF : Kd.F (Kd.int .u64) W okp A3 x.f3.length x.f3) (hok : ∀ k, okp k → ok k ∧ k ≠ g) :
  Kd.N k55 55 (((((((W.setCell ⟨g, i.toNat * 7, none⟩ (.string x.f0)).setCell ⟨g, i.toNat * 7 + 1, none⟩ (.int .u64 x.f1)).setCell ⟨g, i.toNat * 7 + 2, none⟩ (.int .u64 x.f2)).setCell ⟨g, i.toNat * 7 + 3, none⟩ (.slice A3 x.f3.length c3)).setCell ⟨g, i.toNat * 7 + 4, none⟩ (.int .u64 x.f4)).setCell ⟨g, i.toNat * 7 + 5, none⟩ (.int .u64 x.f5)).setCell ⟨g, i.toNat * 7 + 6, none⟩ (.int .u64 x.f6)) base ok (.slice (some ⟨g, 0, none⟩) n cap) (ds.set i.toNat x) := by
 obtain ⟨c, hcl, _, hcc, _⟩ := Kd.N_elem h z55 i h0 h1
 have hcl7 : c.length = 7 := hcl
 have := (Kd.N_seg h i h0 h1 (c := c) (seg := [.string x.f0, .int .u64 x.f1, .int .u64 x.f2, .slice A3 x.f3.length c3, .int .u64 x.f4, .int .u64 x.f5, .int .u64 x.f6]) (j := 0) (okp := okp) (x' := x) hcl hcc (show (7 : Nat) ≤ 7 from Nat.le_refl _) (by
  have e : c.take 0 ++ [Value.string x.f0, Value.int .u64 x.f1, Value.int .u64 x.f2, Value.slice A3 x.f3.length c3, Value.int .u64 x.f4, Value.int .u64 x.f5, Value.int .u64 x.f6] ++ c.drop (0 + [Value.string x.f0, Value.int .u64 x.f1, Value.int .u64 x.f2, Value.slice A3 x.f3.length c3, Value.int .u64 x.f4, Value.int .u64 x.f5, Value.int .u64 x.f6].length) = [Value.string x.f0, Value.int .u64 x.f1, Value.int .u64 x.f2, Value.slice A3 x.f3.length c3, Value.int .u64 x.f4, Value.int .u64 x.f5, Value.int .u64 x.f6] := by
   rw [List.drop_eq_nil_of_le (by simp; omega)]; simp
  rw [e]
  exact k55_mkF W okp x l3 hF) hok).1
 exact this
theorem LB.seven (h : LB w b r lb lr W) (hg : w.heap.size ≤ g) (h1 : b ≠ g) (h2 : r ≠ g) (o : Nat) (b0 b1 b2 b3 b4 b5 b6 : Value) : LB w b r lb lr (((((((W.setCell ⟨g, o, none⟩ b0).setCell ⟨g, o + 1, none⟩ b1).setCell ⟨g, o + 2, none⟩ b2).setCell ⟨g, o + 3, none⟩ b3).setCell ⟨g, o + 4, none⟩ b4).setCell ⟨g, o + 5, none⟩ b5).setCell ⟨g, o + 6, none⟩ b6) :=
 ((((((h.far hg h1 h2 _ _).far hg h1 h2 _ _).far hg h1 h2 _ _).far hg h1 h2 _ _).far hg h1 h2 _ _).far hg h1 h2 _ _).far hg h1 h2 _ _
/-- A result: the ledger that goes out, and a number. -/
theorem LB.ret {P : Program} {fn : Func} {p u : Tmp} {Q : Ending → World → Prop} {a : Act} {v : Value} {y0 y1 y2 : Value} (hf : fn.results = #[.cell p 25, .tmp u]) (hu : Tryd.prog = P) (h : LB w b r lb #[y0, y1, y2] W) (hp : a.tmps.getD p undef = .pointer (some ⟨r, 0, none⟩)) (hv : a.tmps.getD u undef = v) (hd : a.defers = [])
  (hQ : Q (.returned (.tuple #[.agg #[y0, y1, y2], v])) W) : bodyPost P fn Q .ret a W := by
 subst hu hv
 exact bodyPost_ret (results_ct hf _ _ r 25 #[y0, y1, y2] (0, 0) _ hp h.res Tryd.underlying25 rfl (by kernel_rfl)) hd hQ
end Go.Proofs.YtmbigoeldobaiaaDoor.XMrk
