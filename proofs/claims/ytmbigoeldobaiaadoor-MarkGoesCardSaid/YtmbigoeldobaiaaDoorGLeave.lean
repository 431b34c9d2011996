/- slices.Delete of one destination, and ledger.Leave of the given program. Conditions: those of slices.Clone. -/
import Derived.Test.YtmbigoeldobaiaaDoorGBox
import Derived.Test.YtmbigoeldobaiaaDoorGClone
import Derived.Test.YtmbigoeldobaiaaDoorXMrkP1
namespace Go.Proofs.YtmbigoeldobaiaaDoor.XMrk
open Go Go.RowKit Go.Proofs.YtmbigoeldobaiaaDoorW.PrintWords Go.Proofs.YtmbigoeldobaiaaDoorW.PrintLast Go.Proofs.YtmbigoeldobaiaaDoorW.PrintMore Go.Proofs.YtmbigoeldobaiaaDoor.Num
set_option linter.unusedVariables false
set_option linter.unusedSimpArgs false
/-- The places of a row behind its length: they are there, and what is stored there is seen by nobody. -/
theorem tail_put {α : Type} {d : Kd α} {e : Nat} {w : World} {base : Nat} {ok : Nat → Prop} {g n c : Nat} {xs : List α} (h : Kd.N d e w base ok (.slice (some ⟨g, 0, none⟩) n c) xs) (hn : n < c) (zs : List Value) (hz : zs.length = d.sz) :
  (∀ j, j < d.sz → (w.cell? ⟨g, n * d.sz + j, none⟩).isSome = true) ∧ (∀ o, w.frozen? ⟨g, o, none⟩ = false) ∧ Kd.N d e (w.setCells g (n * d.sz) zs) base ok (.slice (some ⟨g, 0, none⟩) n c) xs ∧ w.grownBy (w.setCells g (n * d.sz) zs) (some g) := by
 obtain ⟨hown, rows, hl, ⟨h0, inner, ho, hr⟩, hf⟩ := h
 rcases ho.2 with ⟨hv, _⟩ | ⟨g', cap', cur, hv, hb, hh, hnc, hcm, hcs, htake⟩
 ·cases hv
 injection hv with ha hn' hc
 injection ha with ha
 injection ha with hg
 subst hg; subst hc
 have hle : (n + 1) * d.sz ≤ c * d.sz := Nat.mul_le_mul_right _ hn
 have hks : (n + 1) * d.sz = n * d.sz + d.sz := Nat.succ_mul _ _
 have hcs' : cur.size = c * d.sz := hcs
 have hfit : n * d.sz + zs.length ≤ cur.size := by omega
 obtain ⟨cur', h3, h4, h5⟩ := setCells_row zs (n * d.sz) w cur hh hfit
 obtain ⟨s1, s2, s3, s4⟩ := setCells_same g zs (n * d.sz) w
 have hfar : ∀ k', k' ≠ g → (w.setCells g (n * d.sz) zs).heap[k']? = w.heap[k']? := fun k' hk' => setCells_far zs _ k' hk'
 have hgb : w.grownBy (w.setCells g (n * d.sz) zs) (some g) := ⟨s1, s2, s3, by rw [s4]; exact Nat.le_refl _, fun k' _ hk' => hfar k' (fun he => hk' (by rw [he]))⟩
 refine ⟨fun j hj => ?_, fun o => blk_frozen hh o, ⟨hown, rows, hl, ⟨h0, inner, ⟨ho.1, .inr ⟨g, c, cur', by rw [hn'], hb, h3, hnc, hcm, by rw [h4, hcs], ?_⟩⟩, hr⟩, fun j x c hx hc => Kd.FK_step (hf j x c hx hc) (fun k hk hlt => hgb.block k hlt (by have := hk.2; simpa [Value.ownBlock] using this))⟩, hgb⟩
 ·rw [cell_of_row w g _ cur e (0, 0) hh, Array.getElem?_eq_getElem (by omega)]; rfl
 ·rw [h5, ← htake, List.append_assoc]
  have e1 : rows.length * (Kd.raw d.sz).sz = n * d.sz := by rw [← hn']; rfl
  rw [e1]
  rw [List.take_left' (by rw [List.length_take, Array.length_toList]; omega)]
theorem run_clear_struct {P : Program} (w : World) (t e ty : TypeId) (z : Value) (zs : List Value) (ht : P.underlying t = some (.slice e)) (hv : ∀ w, (zeroValue e).run P w = .ok z w) (hz : (Builtin.zeroCells z.cells 1).toList = zs) (h1 : ∀ u ∈ zs, u.oneCell' = true) (b o c : Nat)
  (hc : ∀ j, j < zs.length → (w.cell? ⟨b, o + j, none⟩).isSome = true) (hf : ∀ j, w.frozen? ⟨b, o + j, none⟩ = false) :
  (Builtin.clear_ #[t] ty #[.slice (some ⟨b, o, none⟩) 1 c]).run P w = .ok (.tuple #[]) (w.setCells b o zs) := by
 have hst := run_storeCells_cells (P := P) b o zs 0 w (by simpa using hc) (fun j _ => by simpa using hf j) h1
 simp only [Nat.add_zero] at hst
 simp [Builtin.clear_, run_underlying ht, hv, hz, hst]
def zd7 : List Value := [.string ByteArray.empty, .int .u64 0, .int .u64 0, .slice none 0 0, .int .u64 0, .int .u64 0, .int .u64 0]
set_option maxHeartbeats 4000000 in
set_option maxRecDepth 100000 in
theorem delete_own (base : Nat) (ok : Nat → Prop) (g c i : Nat) (l : List D) (w : World) (hN : Kd.N k55 55 w base ok (.slice (some ⟨g, 0, none⟩) l.length c) l) (hi : i < l.length) (hbase : base ≤ w.heap.size) (hlen : l.length ≤ 1000000) :
  Calls Tryd.prog 51 #[.slice (some ⟨g, 0, none⟩) l.length c, .int .i64 (i : Int), .int .i64 ((i : Int) + 1)] w fun e w' => e = .returned (.slice (some ⟨g, 0, none⟩) (l.length - 1) c) ∧ Kd.N k55 55 w' base ok (.slice (some ⟨g, 0, none⟩) (l.length - 1) c) (l.eraseIdx i) ∧ Below base w w' := by
 obtain ⟨n, hn⟩ : ∃ n, l.length = n := ⟨_, rfl⟩
 rw [hn] at hN hi hlen ⊢
 obtain ⟨m, rfl⟩ : ∃ m, n = m + 1 := ⟨n - 1, by omega⟩
 rw [Nat.add_sub_cancel]
 have HN := Aside0.mk hN
 obtain ⟨hnc, hcm, hbg⟩ : m + 1 ≤ c ∧ c ≤ maxLen ∧ base ≤ g := by
  obtain ⟨hown, rows, hl, ⟨h0, inner, ho, hr⟩, hf⟩ := hN
  rcases ho.2 with ⟨hv, _⟩ | ⟨g', cap', cur, hv, hb, hh, hnc, hcm, hcs, htake⟩
  ·cases hv
  injection hv with ha hn' hc
  injection ha with ha
  injection ha with ha
  exact ⟨by omega, by rw [hc]; exact hcm, by rw [ha]; exact hb⟩
 have hcm' : c ≤ 9223372036854775807 := hcm
 have HX := Lib.hid hn
 clear hN hn hcm
 have q1 : (0 : Int) ≤ (i : Int) := by omega
 have q2 : (i : Int) ≤ (m : Int) + 1 := by omega
 have q3 : (0 : Int) ≤ (i : Int) + 1 := by omega
 have q4 : (i : Int) + 1 ≤ (m : Int) + 1 := by omega
 have q5 : ((i : Int) == (i : Int) + 1) = false := by rw [beq_eq_false_iff_ne]; omega
 have q6 : i + 1 ≤ m + 1 := hi
 have q7 : i ≤ c := by omega
 have q8 : i + 1 ≤ c := by omega
 have q9 : ((i : Int) + 1).toNat = i + 1 := by omega
 have q10 : (0 : Int) ≤ (m : Int) := by omega
 have q11 : (m : Int) ≤ (m : Int) + 1 := by omega
 have q12 : (m : Int) + 1 ≤ (c : Int) := by omega
 have q13 : m ≤ m + 1 := by omega
 have q14 : m + 1 - m = 1 := by omega
 have q15 : ¬ c = m := by omega
 have q16 : ((m : Int) + 1).toNat = m + 1 := by omega
 have mixed : Tryd.prog.follows .mixedOrders = true := by kernel_rfl
 go_enter Tryd.func51, Tryd.ntmps51
 go_wp2_with fail
 go_region_law_o (refine Kd.N_delete_step k55 (w0 := w) (g := g) (n := m + 1) (c := c) (k := i) (m := m + 1 - (i + 1)) (c2 := c - (i + 1)) (A := if c = i + 1 then some ⟨g, 0, none⟩ else some ⟨g, (i + 1) * 7, none⟩) base rfl (.tmp 22) (.tmp 25) 23 55 rfl Tryd.underlying23 (by kernel_rfl) (by simp [Act.eval, Act.put]) (by simp [Act.eval, Act.put]) (by simp [Addr.add]; rfl) rfl (Kd.N_below HN.out (below_drew (Below.refl _ _))) hi (below_drew (Below.refl _ _)) hbase (fun w1 hN1 hb1 hg1 => ?_))
 rw [Nat.add_sub_cancel] at hN1
 obtain ⟨ht1, ht2, ht3, ht4⟩ := tail_put hN1 (by omega) zd7 rfl
 have hcl : ∀ ty, (Builtin.clear_ #[23] ty #[.slice (some ⟨g, m * 7, none⟩) 1 (c - m)]).run Tryd.prog w1 = .ok (.tuple #[]) (w1.setCells g (m * 7) zd7) :=
  fun ty => run_clear_struct w1 _ _ ty (.agg #[.string ByteArray.empty, .int .u64 0, .int .u64 0, .slice none 0 0, .int .u64 0, .int .u64 0, .int .u64 0]) zd7 Tryd.underlying23 (fun _ => by kernel_rfl) (by kernel_rfl) (by decide) g (m * 7) (c - m) ht1 (fun j => ht2 _)
 have HN3 := Aside0.mk ht3
 have HB4 := Aside0.mk (hb1.grown ht4 (Nat.le_trans hbase hb1.size) (fun k hk => by injection hk with hk; subst hk; exact hbg))
 clear ht1 ht2 ht3 ht4 hN1 hb1 hg1
 go_wp2_with (simp only [hcl])
 all_goals (go_ret; first | exact ⟨rfl, HN3.out, HB4.out⟩ | (have hci : c = i + 1 := (by first | assumption | omega); rw [← hci]; exact ⟨rfl, HN3.out, HB4.out⟩))
theorem LB.stepB {w W W' : World} {b r B : Nat} {lb lr : Array Value} (h : LB w b r lb lr W) (hb : Below B W W') (hB : w.heap.size ≤ B) (h1 : b < B) (h2 : r < B) : LB w b r lb lr W' :=
 ⟨below_weaken h.below hB hb, h.ge, (hb.block b h1).trans h.box, (hb.block r h2).trans h.res⟩
def ledger_Leave.f (a0_0 a0_1 : Int) (l0_2 : List D) (a1 : ByteArray) : Option (Int × Int × List D × Int) :=
 if plN l0_2 a1 < l0_2.length then (if l0_2.length ≤ 1000000 then some (a0_0, a0_1, l0_2.eraseIdx (plN l0_2 a1), 0) else none) else some (0, 0, [], 5)
set_option maxHeartbeats 8000000 in
set_option maxRecDepth 100000 in
theorem ledger_Leave.calls (a0_0 : Int) (a0_1 : Int) (P0_2_ : Nat → Prop) (A0_2 : Option Addr) (c0_2 : Nat) (l0_2 : List D) (a1 : ByteArray) (r1 : Int) (r2 : Int) (r3 : List D) (r4 : Int) (w : World) (hs0_2 : Kd.V k55 55 w w.heap.size (fun k_ => P0_2_ k_) (.slice A0_2 l0_2.length c0_2) l0_2) (h : ledger_Leave.f a0_0 a0_1 l0_2 a1 = some (r1, r2, r3, r4)) :
  Calls Tryd.prog 37 #[.agg #[.int .u64 a0_0, .int .u64 a0_1, .slice A0_2 l0_2.length c0_2], .string a1] w fun e w' => ∃ v2_ : Value, e = .returned (.tuple #[.agg #[.int .u64 r1, .int .u64 r2, v2_], .int .i64 r4]) ∧ Kd.V k55 55 w' w.heap.size (fun k_ => (P0_2_ k_ ∨ w.heap.size ≤ k_)) v2_ r3 ∧ Below w.heap.size w w' := by
 unfold ledger_Leave.f at h
 have HV0 := Aside0.mk (Kd.V_bound hs0_2)
 have hc0 : l0_2.length ≤ c0_2 := (Kd.V_reads' hs0_2).2.1
 have HC0 := Aside0.mk (Kd.V_reads' hs0_2).2.2
 clear hs0_2
 by_cases c1 : plN l0_2 a1 < l0_2.length
 ·rw [if_pos c1] at h
  by_cases c3 : l0_2.length ≤ 1000000
  ·rw [if_pos c3] at h
   simp only [Option.some.injEq, Prod.mk.injEq] at h
   obtain ⟨rfl, rfl, rfl, rfl⟩ := h
   have hpl := plI_pos c1
   obtain ⟨i, hi⟩ : ∃ i : Nat, plN l0_2 a1 = i := ⟨_, rfl⟩
   rw [hi] at hpl c1
   have HI := Lib.hid hpl
   have HI2 := Lib.hid hi
   have HC1 := Lib.hid c1
   have HC3 := Lib.hid c3
   have cb : decide ((i : Int) < 0) = false := decide_eq_false (by omega)
   rw [hi]
   clear hpl hi c1 c3
   go_enter Tryd.func37, Tryd.ntmps37
   go_wp2_with (go_at_call 32; refine (ledger_place.calls A0_2 c0_2 l0_2 a1 (i : Int) _ (Kd.C_below HC0.out (below_alloc (below_alloc (Below.refl _ _) _) _)) hc0 (by rw [← HI.out]; rfl)).mono ?_; rintro e w2 ⟨rfl, hb2⟩; have HL := Aside0.mk (LB.step (LB.start w _ _) hb2); obtain ⟨hc0, hc1, hc2, hd0, hd1, hd2, hf1, hf2⟩ := HL.out.cells; clear hb2)
   refine (ledger_Dest_39.calls (fun k_ => P0_2_ k_ ∧ k_ < w.heap.size) A0_2 c0_2 l0_2 l0_2 w2 (show Kd.V k55 55 w2 w2.heap.size (fun k_ => P0_2_ k_ ∧ k_ < w.heap.size) _ _ from Kd.V_below HV0.out HL.out.below) (if_pos HC3.out)).mono ?_
   rintro e w4 ⟨v4, rfl, hN4, hb4⟩
   have c1 := HC1.out
   obtain ⟨g, cap, hv4, hg1, hg2, _⟩ := Kd.N_form hN4 (by omega)
   subst hv4
   have HL4 := Aside0.mk (HL.out.step hb4)
   have HN4 := Aside0.mk hN4
   have hsz4 := hb4.size
   have hgw : w.heap.size + 1 < g := by have := HL.out.lt; omega
   have HS4 := Aside0.mk (show w2.heap.size ≤ w4.heap.size ∧ w.heap.size + 1 < w2.heap.size from ⟨hsz4, HL.out.lt.2⟩)
   clear hN4 hb4 hc0 hc1 hc2 hd0 hd1 hd2 hf1 hf2 hsz4 hg1 hg2 c1
   obtain ⟨hc0, hc1, hc2, hd0, hd1, hd2, hf1, hf2⟩ := HL4.out.cells
   have hwr : wrap64 ((i : Int) + 1) = (i : Int) + 1 := by have h1 := HC1.out; have h3 := HC3.out; unfold wrap64; omega
   go_wp2_with (go_at_call 51; refine (delete_own w2.heap.size _ g cap i l0_2 _ HN4.out HC1.out HS4.out.1 HC3.out).mono ?_; rintro e w6 ⟨rfl, hN6, hb6⟩; have HN6 := Aside0.mk hN6; have HL6 := Aside0.mk (LB.stepB HL4.out hb6 (by have := HS4.out.2; omega) (by have := HS4.out.2; omega) HS4.out.2); clear hN6 hb6 hc0 hc1 hc2 hd0 hd1 hd2 hf1 hf2; obtain ⟨hc0, hc1, hc2, hd0, hd1, hd2, hf1, hf2⟩ := HL6.out.cells)
   have hL7 := LB.setb (lb' := #[.int .u64 a0_0, .int .u64 a0_1, .slice (some ⟨g, 0, none⟩) (l0_2.length - 1) cap]) HL6.out 2 (.slice (some ⟨g, 0, none⟩) (l0_2.length - 1) cap) rfl
   have hLf := LB.setr3 hL7 (.int .u64 a0_0) (.int .u64 a0_1) (.slice (some ⟨g, 0, none⟩) (l0_2.length - 1) cap)
   have hV9 := Kd.N_V (base' := w.heap.size) (Kd.N_far (p := ⟨w.heap.size, 2, none⟩) HN6.out (fun k_ hk_ => by have := HS4.out.2; simp only at hk_ ⊢; omega) (.slice (some ⟨g, 0, none⟩) (l0_2.length - 1) cap))
   have hrr : ∀ k_, ((P0_2_ k_ ∧ k_ < w.heap.size) ∨ w2.heap.size ≤ k_) → k_ ≠ w.heap.size + 1 := fun k_ hk_ => by have := HS4.out.2; omega
   have hVf := Kd.V_mono (Kd.V_far (p := ⟨w.heap.size + 1, 2, none⟩) (Kd.V_far (p := ⟨w.heap.size + 1, 1, none⟩) (Kd.V_far (p := ⟨w.heap.size + 1, 0, none⟩) hV9 hrr (.int .u64 a0_0)) hrr (.int .u64 a0_1)) hrr (.slice (some ⟨g, 0, none⟩) (l0_2.length - 1) cap)) (ok' := fun k_ => P0_2_ k_ ∨ w.heap.size ≤ k_) (fun k_ hk_ => by have := HS4.out.2; rcases hk_ with h_ | h_; exact .inl h_.1; exact .inr (by omega))
   exact LB.ret rfl rfl hLf rfl rfl rfl ⟨_, rfl, hVf, hLf.below⟩
  ·rw [if_neg c3] at h; cases h
 ·rw [if_neg c1] at h
  simp only [Option.some.injEq, Prod.mk.injEq] at h
  obtain ⟨rfl, rfl, rfl, rfl⟩ := h
  have hpl := plI_neg c1
  have HI := Lib.hid hpl
  clear hpl c1
  go_enter Tryd.func37, Tryd.ntmps37
  go_wp2_with (go_at_call 32; refine (ledger_place.calls A0_2 c0_2 l0_2 a1 (-1) _ (Kd.C_below HC0.out (below_alloc (below_alloc (Below.refl _ _) _) _)) hc0 (by rw [← HI.out]; rfl)).mono ?_; rintro e w2 ⟨rfl, hb2⟩; have HL := Aside0.mk (LB.step (LB.start w _ _) hb2); obtain ⟨hc0, hc1, hc2, hd0, hd1, hd2, hf1, hf2⟩ := HL.out.cells; clear hb2)
  exact LB.ret rfl rfl (LB.setr3 HL.out _ _ _) rfl rfl rfl ⟨_, rfl, Kd.V_nil _ _ _ _ _, (LB.setr3 HL.out _ _ _).below⟩
end Go.Proofs.YtmbigoeldobaiaaDoor.XMrk
