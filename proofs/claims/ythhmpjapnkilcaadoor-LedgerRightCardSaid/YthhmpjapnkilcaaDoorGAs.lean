/- postroomlaw10.as of the given program, where it answers true: a ledger, and the document's. Conditions: what it compares is equal. -/
import Derived.Test.YthhmpjapnkilcaaDoorGRefAdd
import Derived.Test.YthhmpjapnkilcaaDoorXLdgP1
namespace Go.Proofs.YthhmpjapnkilcaaDoor.XLdg
open Go Go.RowKit Go.Proofs.YthhmpjapnkilcaaDoorW.PrintWords Go.Proofs.YthhmpjapnkilcaaDoorW.PrintLast Go.Proofs.YthhmpjapnkilcaaDoorW.PrintMore Go.Proofs.YthhmpjapnkilcaaDoor.Num
set_option linter.unusedVariables false
set_option linter.unusedSimpArgs false
def asD (k : Nat) (d : D) (x : RD) : Prop := d.f0 = x.f0 ∧ d.f1 = x.f1 ∧ postroomref10_Low.f k x.f0 x.f1 x.f2 = some d.f2 ∧ (∃ ab, postroomref10_Above.f k x.f0 x.f1 x.f2 = some ab ∧ postroomref10_Same.f k d.f3 ab = some true) ∧
 postroomref10_Count.f k x.f0 x.f1 x.f2 97 = some d.f4 ∧ postroomref10_Count.f k x.f0 x.f1 x.f2 101 = some d.f5 ∧ postroomref10_Count.f k x.f0 x.f1 x.f2 114 = some d.f6
def asL (k : Nat) (l : List D) (r : List RD) : Prop := l.length = r.length ∧ l.length ≤ 1000000 ∧ ∀ (i : Nat) (h : i < l.length) (h2 : i < r.length), asD k l[i] r[i]
instance exDec {α : Type} (o : Option α) (p : α → Prop) [DecidablePred p] : Decidable (∃ a, o = some a ∧ p a) :=
 match o with
 | none => isFalse (fun ⟨_, h, _⟩ => by cases h)
 | some a => if h : p a then isTrue ⟨a, rfl, h⟩ else isFalse (fun ⟨_, e, hp⟩ => h (by injection e with e; rw [e]; exact hp))
instance asD_dec (k : Nat) (d : D) (x : RD) : Decidable (asD k d x) := by unfold asD; infer_instance
instance asL_dec (k : Nat) (l : List D) (r : List RD) : Decidable (asL k l r) := by unfold asL; infer_instance
set_option maxHeartbeats 8000000 in
set_option maxRecDepth 100000 in
theorem postroomlaw10_as.calls (k : Nat) (f n : Int) (A : Option Addr) (c : Nat) (l : List D) (A' : Option Addr) (c' : Nat) (r : List RD) (w : World) (hl : Kd.C k37 w A l.length l) (hc : l.length ≤ c) (hr : Kd.C k84 w A' r.length r) (hc' : r.length ≤ c') (h : asL k l r) :
  Calls Tryd.prog 45 #[.agg #[.int .u64 f, .int .u64 n, .slice A l.length c], .agg #[.int .u64 f, .int .u64 n, .slice A' r.length c']] w fun e w' => e = .returned (.bool true) ∧ Below w.heap.size w w' := by
 have HL := Aside0.mk hl
 have HR := Aside0.mk hr
 have HH := Aside0.mk h
 obtain ⟨n0, hn0⟩ : ∃ n0, l.length = n0 := ⟨_, rfl⟩
 have hn1 : r.length = n0 := by rw [← hn0]; exact h.1.symm
 have hn6 : n0 ≤ 1000000 := by rw [← hn0]; exact h.2.1
 have HN0 := Lib.hid hn0
 have HN1 := Lib.hid hn1
 rw [hn0, hn1]
 clear hl hr h hn0 hn1 hc hc'
 have mixed : Tryd.prog.follows .mixedOrders = true := by kernel_rfl
 go_enter Tryd.func45, Tryd.ntmps45
 go_wp2
 have HB5 := Aside0.mk (below_alloc (below_alloc (Below.refl w.heap.size w) (.cells #[.int .u64 f, .int .u64 n, .slice A n0 c] 27)) (.cells #[.int .u64 f, .int .u64 n, .slice A' n0 c'] 57))
 have HX5 := Aside0.mk (blk_alloc (blk_new w (.cells #[.int .u64 f, .int .u64 n, .slice A n0 c] 27)) (.cells #[.int .u64 f, .int .u64 n, .slice A' n0 c'] 57))
 have HY5 := Aside0.mk (show ((w.alloc (.cells #[.int .u64 f, .int .u64 n, .slice A n0 c] 27)).alloc (.cells #[.int .u64 f, .int .u64 n, .slice A' n0 c'] 57)).heap[w.heap.size + 1]? = some (.cells #[.int .u64 f, .int .u64 n, .slice A' n0 c'] 57 (0, 0)) by simpa using blk_new (w.alloc (.cells #[.int .u64 f, .int .u64 n, .slice A n0 c] 27)) (.cells #[.int .u64 f, .int .u64 n, .slice A' n0 c'] 57))
 generalize ((w.alloc (.cells #[.int .u64 f, .int .u64 n, .slice A n0 c] 27)).alloc (.cells #[.int .u64 f, .int .u64 n, .slice A' n0 c'] 57)) = w5 at HB5 HX5 HY5 ⊢
 go_loopg [5] (n0 + 1) (fun kq v5 W => ∃ (i : Nat), v5 = .int .i64 (i : Int) ∧ Aside0 (i + kq = n0 + 1 ∧ i ≤ n0) ∧ Aside0 (Below w.heap.size w W) ∧ Aside0 (W.heap[w.heap.size]? = some (.cells #[.int .u64 f, .int .u64 n, .slice A n0 c] 27 (0, 0))) ∧ Aside0 (W.heap[w.heap.size + 1]? = some (.cells #[.int .u64 f, .int .u64 n, .slice A' n0 c'] 57 (0, 0))))
 case atStart => exact ⟨0, rfl, ⟨by omega, by omega⟩, HB5, HX5, HY5⟩
 case round =>
  obtain ⟨i, rfl, HA, HB6, HX6, HY6⟩ := hrel
  clear HB5 HX5 HY5
  have hwrap : wrap64 ((i : Int) + 1) = (i : Int) + 1 := by have := HA.out.2; unfold wrap64; omega
  have hb2 : wr.cell? ⟨w.heap.size, 2, none⟩ = some (.slice A n0 c) := (blk_cell HX6.out 2).trans rfl
  have hr2 : wr.cell? ⟨w.heap.size + 1, 2, none⟩ = some (.slice A' n0 c') := (blk_cell HY6.out 2).trans rfl
  by_cases cc : i < n0
  ·have cb3 := decide_eq_true (show (i : Int) < (n0 : Int) by omega)
   have cp : (0 : Int) ≤ (i : Int) := by omega
   have cl : (i : Int) < (n0 : Int) := by omega
   have c4 : i < l.length := by have := HN0.out; omega
   have c5 : i < r.length := by have := HN1.out; omega
   obtain ⟨ad, A3, c3, e0, hx0, hx1, hx2, hx3, hx4, hx5, hx6, hx7, hx8⟩ := at_T37 (Kd.C_below HL.out HB6.out) (i : Int) cp (by omega)
   obtain ⟨ae, A9, c9, e9, hz0, hz1, hz2, hz7, hz8⟩ := at_T84 (Kd.C_below HR.out HB6.out) (i : Int) cp (by omega)
   subst e0 e9
   have hdd : rd_T37 l (i : Int) = l[i] := by unfold rd_T37; rw [Int.toNat_natCast, List.getD_eq_getElem?_getD, List.getElem?_eq_getElem c4]; rfl
   have hee : rd_T84 r (i : Int) = r[i] := by unfold rd_T84; rw [Int.toNat_natCast, List.getD_eq_getElem?_getD, List.getElem?_eq_getElem c5]; rfl
   have hq := HH.out.2.2 i c4 c5
   rw [hdd, Int.toNat_natCast] at hx0 hx1 hx2 hx3 hx4 hx5 hx6
   rw [hdd] at hx7 hx8
   rw [hee, Int.toNat_natCast] at hz0 hz1 hz2
   rw [hee] at hz7 hz8
   generalize l[i] = d at hx0 hx1 hx2 hx3 hx4 hx5 hx6 hx7 hx8 hq
   generalize r[i] = x at hz0 hz1 hz2 hz7 hz8 hq
   obtain ⟨q0, q1, q2, ⟨ab, q3, q4⟩, q5, q6, q7⟩ := hq
   rw [q0] at hx0
   rw [q1] at hx1
   have Q2 := Lib.hid q2
   have Q3 := Lib.hid q3
   have Q4 := Lib.hid q4
   have Q5 := Lib.hid q5
   have Q6 := Lib.hid q6
   have Q7 := Lib.hid q7
   have HX7 := Aside0.mk hx7
   have HX8 := Aside0.mk hx8
   have HZ7 := Aside0.mk hz7
   have HZ8 := Aside0.mk hz8
   have hlt := blk_lt HY6.out
   have hs1 : w.heap.size + 1 ≠ wr.heap.size := by omega
   have hs2 : w.heap.size ≠ wr.heap.size := by omega
   have had : ad.block < wr.heap.size := by have h1 := World.block_lt_of_cell? _ _ hx0; unfold Addr.add at h1; split at h1 <;> simpa using h1
   have hae : ae.block < wr.heap.size := by have h1 := World.block_lt_of_cell? _ _ hz0; unfold Addr.add at h1; split at h1 <;> simpa using h1
   clear q0 q1 q2 q3 q4 q5 q6 q7 hx7 hx8 hz7 hz8 hdd hee hlt
   have hw1 := below_alloc (Below.refl wr.heap.size wr) (.cells #[.string x.f0, .int .u64 x.f1, .int .u64 d.f2, .slice A3 d.f3.length c3, .int .u64 d.f4, .int .u64 d.f5, .int .u64 d.f6] 37)
   have kr2 := (hw1.cell (World.block_lt_of_cell? _ _ hr2)).trans hr2
   have kz0 := (hw1.cell (World.block_lt_of_cell? _ _ hz0)).trans hz0
   have kz1 := (hw1.cell (World.block_lt_of_cell? _ _ hz1)).trans hz1
   have kz2 := (hw1.cell (World.block_lt_of_cell? _ _ hz2)).trans hz2
   clear hw1
   go_wp2_with fail
   have HZC := Aside0.mk (Kd.C_below HZ8.out (below_alloc (below_alloc (Below.refl wr.heap.size wr) (.cells #[.string x.f0, .int .u64 x.f1, .int .u64 d.f2, .slice A3 d.f3.length c3, .int .u64 d.f4, .int .u64 d.f5, .int .u64 d.f6] 37)) (.cells #[.string x.f0, .int .u64 x.f1, .slice A9 x.f2.length c9] 84)))
   have HDC := Aside0.mk (Kd.C_below HX8.out (below_alloc (below_alloc (Below.refl wr.heap.size wr) (.cells #[.string x.f0, .int .u64 x.f1, .int .u64 d.f2, .slice A3 d.f3.length c3, .int .u64 d.f4, .int .u64 d.f5, .int .u64 d.f6] 37)) (.cells #[.string x.f0, .int .u64 x.f1, .slice A9 x.f2.length c9] 84)))
   have HW7 := Aside0.mk (below_alloc (below_alloc (Below.refl wr.heap.size wr) (.cells #[.string x.f0, .int .u64 x.f1, .int .u64 d.f2, .slice A3 d.f3.length c3, .int .u64 d.f4, .int .u64 d.f5, .int .u64 d.f6] 37)) (.cells #[.string x.f0, .int .u64 x.f1, .slice A9 x.f2.length c9] 84))
   have HD7 := Aside0.mk (blk_alloc (blk_new wr (.cells #[.string x.f0, .int .u64 x.f1, .int .u64 d.f2, .slice A3 d.f3.length c3, .int .u64 d.f4, .int .u64 d.f5, .int .u64 d.f6] 37)) (.cells #[.string x.f0, .int .u64 x.f1, .slice A9 x.f2.length c9] 84))
   have HE7 := Aside0.mk (show ((wr.alloc (.cells #[.string x.f0, .int .u64 x.f1, .int .u64 d.f2, .slice A3 d.f3.length c3, .int .u64 d.f4, .int .u64 d.f5, .int .u64 d.f6] 37)).alloc (.cells #[.string x.f0, .int .u64 x.f1, .slice A9 x.f2.length c9] 84)).heap[wr.heap.size + 1]? = some (.cells #[.string x.f0, .int .u64 x.f1, .slice A9 x.f2.length c9] 84 (0, 0)) by simpa using blk_new (wr.alloc (.cells #[.string x.f0, .int .u64 x.f1, .int .u64 d.f2, .slice A3 d.f3.length c3, .int .u64 d.f4, .int .u64 d.f5, .int .u64 d.f6] 37)) (.cells #[.string x.f0, .int .u64 x.f1, .slice A9 x.f2.length c9] 84))
   generalize ((wr.alloc (.cells #[.string x.f0, .int .u64 x.f1, .int .u64 d.f2, .slice A3 d.f3.length c3, .int .u64 d.f4, .int .u64 d.f5, .int .u64 d.f6] 37)).alloc (.cells #[.string x.f0, .int .u64 x.f1, .slice A9 x.f2.length c9] 84)) = w7 at HZC HDC HW7 HD7 HE7 ⊢
   have HF := Aside0.mk (fun W (hb : Below w7.heap.size w7 W) => show W.cell? ⟨wr.heap.size, 0, none⟩ = some (.string x.f0) ∧ W.cell? ⟨wr.heap.size, 1, none⟩ = some (.int .u64 x.f1) ∧ W.cell? ⟨wr.heap.size, 2, none⟩ = some (.int .u64 d.f2) ∧ W.cell? ⟨wr.heap.size, 3, none⟩ = some (.slice A3 d.f3.length c3) ∧ W.cell? ⟨wr.heap.size, 4, none⟩ = some (.int .u64 d.f4) ∧ W.cell? ⟨wr.heap.size, 5, none⟩ = some (.int .u64 d.f5) ∧ W.cell? ⟨wr.heap.size, 6, none⟩ = some (.int .u64 d.f6) ∧ W.cell? ⟨wr.heap.size + 1, 0, none⟩ = some (.string x.f0) ∧ W.cell? ⟨wr.heap.size + 1, 1, none⟩ = some (.int .u64 x.f1) ∧ W.cell? ⟨wr.heap.size + 1, 2, none⟩ = some (.slice A9 x.f2.length c9) from ⟨(blk_cell (blk_below HD7.out hb) 0).trans rfl, (blk_cell (blk_below HD7.out hb) 1).trans rfl, (blk_cell (blk_below HD7.out hb) 2).trans rfl, (blk_cell (blk_below HD7.out hb) 3).trans rfl, (blk_cell (blk_below HD7.out hb) 4).trans rfl, (blk_cell (blk_below HD7.out hb) 5).trans rfl, (blk_cell (blk_below HD7.out hb) 6).trans rfl, (blk_cell (blk_below HE7.out hb) 0).trans rfl, (blk_cell (blk_below HE7.out hb) 1).trans rfl, (blk_cell (blk_below HE7.out hb) 2).trans rfl⟩)
   have hI : Below w7.heap.size w7 w7 := Below.refl _ _
   clear hx0 hx1 hx2 hx3 hx4 hx5 hx6 hz0 hz1 hz2 kr2 kz0 kz1 kz2 hb2 hr2
   go_region_held3 (fun W => W.cell? ⟨wr.heap.size, 0, none⟩ = some (.string x.f0) ∧ W.cell? ⟨wr.heap.size, 1, none⟩ = some (.int .u64 x.f1) ∧ W.cell? ⟨wr.heap.size, 2, none⟩ = some (.int .u64 d.f2) ∧ W.cell? ⟨wr.heap.size, 3, none⟩ = some (.slice A3 d.f3.length c3) ∧ W.cell? ⟨wr.heap.size, 4, none⟩ = some (.int .u64 d.f4) ∧ W.cell? ⟨wr.heap.size, 5, none⟩ = some (.int .u64 d.f5) ∧ W.cell? ⟨wr.heap.size, 6, none⟩ = some (.int .u64 d.f6) ∧ W.cell? ⟨wr.heap.size + 1, 0, none⟩ = some (.string x.f0) ∧ W.cell? ⟨wr.heap.size + 1, 1, none⟩ = some (.int .u64 x.f1) ∧ W.cell? ⟨wr.heap.size + 1, 2, none⟩ = some (.slice A9 x.f2.length c9))
    (exact HF.out _ (by repeat (first | (with_reducible exact hI) | (with_reducible apply below_drew))))
    (first
     | (go_at_call 55; (with_reducible refine (postroomref10_Low.calls k x.f0 x.f1 A9 c9 x.f2 d.f2 _ ?side1 HZ7.out Q2.out).mono ?_); (case side1 => exact Kd.C_below HZC.out (by repeat (first | (with_reducible exact hI) | (with_reducible apply below_drew)))); rintro e w8 ⟨rfl, hb8⟩; have n0_ := below_step (by repeat (first | (with_reducible exact hI) | (with_reducible apply below_drew))) hb8; clear hI hb8; have hI := n0_; clear n0_)
     | (go_at_call 56; (with_reducible refine (postroomref10_Above.calls k x.f0 x.f1 A9 c9 x.f2 ab _ ?side1 HZ7.out Q3.out).mono ?_); (case side1 => exact Kd.C_below HZC.out (by repeat (first | (with_reducible exact hI) | (with_reducible apply below_drew)))); rintro e w8 ⟨v8, rfl, hR8, hb8⟩; obtain ⟨B8, e8, rfl⟩ := Kd.R_slice hR8; have HR8 := Aside0.mk hR8; clear hR8; have n0_ := below_step (by repeat (first | (with_reducible exact hI) | (with_reducible apply below_drew))) hb8; clear hI hb8; have hI := n0_; clear n0_)
     | (go_at_call 21; (with_reducible refine (postroomref10_Same.calls k A3 c3 d.f3 _ _ ab true _ ?side1 HX7.out ?side2 ?side3 Q4.out).mono ?_); (case side1 => exact Kd.C_below HDC.out (by repeat (first | (with_reducible exact hI) | (with_reducible apply below_drew)))); (case side2 => exact (Kd.R_reads' HR8.out).2.2); (case side3 => exact (Kd.R_reads' HR8.out).2.1); rintro e w9 ⟨rfl, hb9⟩; clear HR8; have hb9' := hb9.below; have n0_ := below_step (by repeat (first | (with_reducible exact hI) | (with_reducible apply below_drew))) hb9'; clear hI hb9 hb9'; have hI := n0_; clear n0_)
     | (go_at_call 57; (with_reducible refine (postroomref10_Count.calls k x.f0 x.f1 A9 c9 x.f2 97 d.f4 _ ?side1 HZ7.out Q5.out).mono ?_); (case side1 => exact Kd.C_below HZC.out (by repeat (first | (with_reducible exact hI) | (with_reducible apply below_drew)))); rintro e w8 ⟨rfl, hb8⟩; have n0_ := below_step (by repeat (first | (with_reducible exact hI) | (with_reducible apply below_drew))) hb8; clear hI hb8; have hI := n0_; clear n0_)
     | (go_at_call 57; (with_reducible refine (postroomref10_Count.calls k x.f0 x.f1 A9 c9 x.f2 101 d.f5 _ ?side1 HZ7.out Q6.out).mono ?_); (case side1 => exact Kd.C_below HZC.out (by repeat (first | (with_reducible exact hI) | (with_reducible apply below_drew)))); rintro e w8 ⟨rfl, hb8⟩; have n0_ := below_step (by repeat (first | (with_reducible exact hI) | (with_reducible apply below_drew))) hb8; clear hI hb8; have hI := n0_; clear n0_)
     | (go_at_call 57; (with_reducible refine (postroomref10_Count.calls k x.f0 x.f1 A9 c9 x.f2 114 d.f6 _ ?side1 HZ7.out Q7.out).mono ?_); (case side1 => exact Kd.C_below HZC.out (by repeat (first | (with_reducible exact hI) | (with_reducible apply below_drew)))); rintro e w8 ⟨rfl, hb8⟩; have n0_ := below_step (by repeat (first | (with_reducible exact hI) | (with_reducible apply below_drew))) hb8; clear hI hb8; have hI := n0_; clear n0_))
   have HI8 := Aside0.mk (below_step HW7.out hI)
   clear hI
   go_wp2
   go_roundg (n0 - i)
   case measure => have := HA.out.1; omega
   case rel => exact ⟨i + 1, rfl, ⟨by have := HA.out.1; omega, by omega⟩, ⟨below_step HB6.out HI8.out⟩, ⟨blk_below HX6.out HI8.out⟩, ⟨blk_below HY6.out HI8.out⟩⟩
  ·have cb3 := decide_eq_false (show ¬ (i : Int) < (n0 : Int) by omega)
   go_wp2
   go_ret
   exact ⟨rfl, HB6.out⟩
end Go.Proofs.YthhmpjapnkilcaaDoor.XLdg
