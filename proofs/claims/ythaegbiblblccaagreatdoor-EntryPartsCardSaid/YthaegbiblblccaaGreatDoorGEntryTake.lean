/- entry.Take of the given program: the labels, then the samples, by two closures in a slice. Conditions: those that each theorem names. -/
import Derived.Test.YthaegbiblblccaaGreatDoorXEntP1
import Derived.Test.YthaegbiblblccaaGreatDoorXEntP2
import Derived.Test.YthaegbiblblccaaGreatDoorNumLib
import Derived.Test.YthaegbiblblccaaGreatDoorGSampleTake
import Derived.Lib.Hide
import Derived.Laws.EntriesVeiled
namespace Go.Proofs.YthaegbiblblccaaGreatDoor.XEnt
open Go Go.RowKit Go.Proofs.YthaegbiblblccaaGreatDoorW.PrintWords Go.Proofs.YthaegbiblblccaaGreatDoorW.PrintLast Go.Proofs.YthaegbiblblccaaGreatDoorW.PrintMore Go.Proofs.YthaegbiblblccaaGreatDoor.Num
set_option linter.unusedVariables false
set_option linter.unusedSimpArgs false
abbrev EP := S52
abbrev ES := S54
def entry_Take.f (k : Nat) (s : ByteArray) : Option (List EP × List ES × Int) := (label_Take.f k s).bind fun t => if t.2.2 = 0 then (sample_Take.f t.2.1).bind fun u => if u.2.2 = 0 then (if u.2.1.toList = [] then some (t.1, u.1, 0) else some ([], [], 2)) else some ([], [], 2) else some ([], [], 2)
theorem entry_Take.mono : ∀ a0 k, LeO (entry_Take.f k a0) (entry_Take.f (k + 1) a0) := by
  intro a0 k
  unfold entry_Take.f
  exact LeO.bind (label_Take.mono _ _) (fun _ => LeO.refl _)

theorem parts.calls (w : World) : Calls Tryz.prog 26 #[] w fun e w' => e = .returned (.slice (some ⟨w.heap.size, 0, none⟩) 2 2) ∧ w' = w.alloc (.cells #[.func (.func 50) #[] #[], .func (.func 52) #[] #[]] 60) := by
  go_enter Tryz.func26, Tryz.ntmps26
  go_wp2
  go_ret
  exact ⟨rfl, rfl⟩

theorem part1.calls (k : Nat) (s : ByteArray) (r1 : List EP) (r2 : ByteArray) (r3 : Int) (b : Nat) (u0 u1 : Value) (w : World) (hb : w.heap[b]? = some (.cells #[u0, u1] 25 (0, 0))) (h : label_Take.f k s = some (r1, r2, r3)) :
    Calls Tryz.prog 50 #[.pointer (some ⟨b, 0, none⟩), .string s] w fun e w' => ∃ A c w1, e = .returned (.tuple #[.string r2, .int .i64 r3]) ∧ Kd.R k52 52 w1 w.heap.size (fun _ => True) (.slice A r1.length c) r1 ∧ Below w.heap.size w w1 ∧ w' = w1.setCell ⟨b, 0, none⟩ (.slice A r1.length c) := by
  have H := label_Take.calls k s r1 r2 r3 w h
  have HX := Aside0.mk hb
  clear h hb
  go_enter Tryz.func50, Tryz.ntmps50
  go_wp2_with (go_at_call 51; refine H.mono ?_; rintro e w1 ⟨v, rfl, hR, hB⟩; obtain ⟨A, c, rfl⟩ := Kd.R_slice hR; have hx := blk_below HX.out hB; have hc := blk_cell hx 0; have hf := blk_frozen hx 0; have HR := Aside0.mk hR; have HB := Aside0.mk hB; clear hR hB hx)
  go_ret2
  exact ⟨A, c, _, rfl, HR.out, HB.out, rfl⟩
theorem part2.calls (s : ByteArray) (r1 : List ES) (r2 : ByteArray) (r3 : Int) (b : Nat) (u0 u1 : Value) (w : World) (hb : w.heap[b]? = some (.cells #[u0, u1] 25 (0, 0))) (h : sample_Take.f s = some (r1, r2, r3)) :
    Calls Tryz.prog 52 #[.pointer (some ⟨b, 0, none⟩), .string s] w fun e w' => ∃ A c w1, e = .returned (.tuple #[.string r2, .int .i64 r3]) ∧ Kd.R k54 54 w1 w.heap.size (fun _ => True) (.slice A r1.length c) r1 ∧ Below w.heap.size w w1 ∧ w' = w1.setCell ⟨b, 1, none⟩ (.slice A r1.length c) := by
  have H := sample_Take.calls s r1 r2 r3 w h
  have HX := Aside0.mk hb
  clear h hb
  go_enter Tryz.func52, Tryz.ntmps52
  go_wp2_with (go_at_call 53; refine H.mono ?_; rintro e w1 ⟨v, rfl, hR, hB⟩; obtain ⟨A, c, rfl⟩ := Kd.R_slice hR; have hx := blk_below HX.out hB; have hc := blk_cell hx 1; have hf := blk_frozen hx 1; have HR := Aside0.mk hR; have HB := Aside0.mk hB; clear hR hB hx)
  go_ret2
  exact ⟨A, c, _, rfl, HR.out, HB.out, rfl⟩
/-- Where a walk stands: the call's two boxes and the two closures. -/
structure St (w : World) (rb eb pb : Nat) (u0 u1 : Value) (W : World) : Prop where
  below : Below w.heap.size w W
  r0 : w.heap.size ≤ rb
  e0 : w.heap.size ≤ eb
  re : rb ≠ eb
  rc : W.heap[rb]? = some (.cells #[.slice none 0 0, .slice none 0 0] 25 (0, 0))
  ec : W.heap[eb]? = some (.cells #[u0, u1] 25 (0, 0))
  pc : W.heap[pb]? = some (.cells #[.func (.func 50) #[] #[], .func (.func 52) #[] #[]] 60 (0, 0))
theorem St.step {w W W' : World} {rb eb pb : Nat} {u0 u1 : Value} (h : St w rb eb pb u0 u1 W) (hb : Below W.heap.size W W') : St w rb eb pb u0 u1 W' :=
  ⟨below_step h.below hb, h.r0, h.e0, h.re, blk_below h.rc hb, blk_below h.ec hb, blk_below h.pc hb⟩
theorem St.pe {w W : World} {rb eb pb : Nat} {u0 u1 : Value} (h : St w rb eb pb u0 u1 W) : pb ≠ eb := blk_ne h.pc h.ec (by decide)
theorem St.set0 {w W : World} {rb eb pb : Nat} {u0 u1 : Value} (h : St w rb eb pb u0 u1 W) (v : Value) : St w rb eb pb v u1 (W.setCell ⟨eb, 0, none⟩ v) :=
  ⟨below_set h.below h.e0, h.r0, h.e0, h.re, blk_far h.rc (by exact h.re) _, blk_put h.ec 0 v rfl, blk_far h.pc (by exact h.pe) _⟩
theorem St.set1 {w W : World} {rb eb pb : Nat} {u0 u1 : Value} (h : St w rb eb pb u0 u1 W) (v : Value) : St w rb eb pb u0 v (W.setCell ⟨eb, 1, none⟩ v) :=
  ⟨below_set h.below h.e0, h.r0, h.e0, h.re, blk_far h.rc (by exact h.re) _, blk_put h.ec 1 v rfl, blk_far h.pc (by exact h.pe) _⟩
theorem start_St (w : World) : St w w.heap.size (w.heap.size + 1) (w.heap.size + 1 + 1) (.slice none 0 0) (.slice none 0 0) (((w.alloc (.cells #[.slice none 0 0, .slice none 0 0] 25)).alloc (.cells #[.slice none 0 0, .slice none 0 0] 25)).alloc (.cells #[.func (.func 50) #[] #[], .func (.func 52) #[] #[]] 60)) := by
  refine ⟨below_alloc (below_alloc (below_alloc (Below.refl _ _) _) _) _, Nat.le_refl _, Nat.le_succ _, by omega, blk_alloc (blk_alloc (blk_new _ _) _) _, blk_alloc ?_ _, ?_⟩
  · have := blk_new (w.alloc (.cells #[.slice none 0 0, .slice none 0 0] 25)) (.cells #[.slice none 0 0, .slice none 0 0] 25)
    rwa [World.size_alloc] at this
  · have := blk_new ((w.alloc (.cells #[.slice none 0 0, .slice none 0 0] 25)).alloc (.cells #[.slice none 0 0, .slice none 0 0] 25)) (.cells #[.func (.func 50) #[] #[], .func (.func 52) #[] #[]] 60)
    rwa [World.size_alloc, World.size_alloc] at this
abbrev Done (w : World) (r1 : List EP) (r2 : List ES) (r3 : Int) (e : Ending) (w' : World) : Prop := ∃ v0_ v1_ : Value, e = .returned (.tuple #[.agg #[v0_, v1_], .int .i64 r3]) ∧ Kd.R k52 52 w' w.heap.size (fun _ => True) v0_ r1 ∧ Kd.R k54 54 w' w.heap.size (fun _ => True) v1_ r2 ∧ Below w.heap.size w w'
set_option maxHeartbeats 4000000 in
set_option maxRecDepth 100000 in
theorem take_no1 (k : Nat) (a0 : ByteArray) (l : List EP) (q : ByteArray) (x : Int) (w : World) (h1 : label_Take.f k a0 = some (l, q, x)) (hx : x ≠ 0) :
    Calls Tryz.prog 10 #[.string a0] w (Done w [] [] 2) := by
  have hxb : (x == 0) = false := beq_eq_false_iff_ne.mpr hx
  have hxc : (x != 0) = true := bne_iff_ne.mpr hx
  have h0 := start_St w
  go_enter Tryz.func10, Tryz.ntmps10
  go_wp2_with (go_at_call 26; refine (parts.calls _).mono ?_; rintro e w1 ⟨rfl, rfl⟩)
  refine wp_loop_rounds 3 ?_
  rw [rounds_succ]
  generalize ((w.alloc (.cells #[.slice none 0 0, .slice none 0 0] 25)).alloc (.cells #[.slice none 0 0, .slice none 0 0] 25)).alloc (.cells #[.func (.func 50) #[] #[], .func (.func 52) #[] #[]] 60) = W1 at h0 ⊢
  generalize w.heap.size + 1 + 1 = pb at h0 ⊢
  generalize w.heap.size + 1 = eb at h0 ⊢
  have HS := Lib.hid h0
  have hp0 := blk_cell h0.pc 0
  clear h0
  go_wp2_with (go_at_call 50; refine (part1.calls k a0 l q x eb _ _ _ (HS.out.step (below_alloc (Below.refl _ _) _)).ec h1).mono ?_; rintro e w2 ⟨A, c, w1, rfl, hR, hb, rfl⟩; have hs1 := (HS.out.step (below_alloc (Below.refl _ _) _)).step hb; have hs2 := hs1.set0 (.slice A l.length c); have hl2 := Kd.R_lower (Kd.R_set hR hs1.ec (by decide) 0 (.slice A l.length c)) (below_size (HS.out.step (below_alloc (Below.refl _ _) _)).below); clear hs1 hR hb; generalize (World.setCell w1 _ _) = W2 at hs2 hl2 ⊢; have hr0 := blk_cell hs2.rc 0; have hr1 := blk_cell hs2.rc 1; have hf0 := blk_frozen hs2.rc 0; have hf1 := blk_frozen hs2.rc 1; have hp1 := blk_cell hs2.pc 1; have HS2 := Lib.hid hs2; have HL2 := Aside0.mk hl2; clear hs2 hl2)
  refine bodyPost_ret (results_ct rfl _ _ w.heap.size 25 #[Value.slice none 0 0, Value.slice none 0 0] (0, 0) _ rfl (blk_put (cs := #[Value.slice none 0 0, .slice none 0 0]) (blk_put (cs := #[.slice none 0 0, .slice none 0 0]) HS2.out.rc 0 _ rfl) 1 _ rfl) Tryz.underlying25 rfl (by kernel_rfl)) rfl ?_
  exact ⟨_, _, rfl, Kd.R_nil _ _ _ _ _, Kd.R_nil _ _ _ _ _, below_set (below_set HS2.out.below (Nat.le_refl _)) (Nat.le_refl _)⟩
set_option maxHeartbeats 4000000 in
set_option maxRecDepth 100000 in
theorem take_no2 (k : Nat) (a0 : ByteArray) (l : List EP) (q : ByteArray) (m : List ES) (q2 : ByteArray) (x : Int) (w : World) (h1 : label_Take.f k a0 = some (l, q, 0)) (h2 : sample_Take.f q = some (m, q2, x)) (hx : x ≠ 0) :
    Calls Tryz.prog 10 #[.string a0] w (Done w [] [] 2) := by
  have hxb : (x == 0) = false := beq_eq_false_iff_ne.mpr hx
  have hxc : (x != 0) = true := bne_iff_ne.mpr hx
  have h0 := start_St w
  go_enter Tryz.func10, Tryz.ntmps10
  go_wp2_with (go_at_call 26; refine (parts.calls _).mono ?_; rintro e w1 ⟨rfl, rfl⟩)
  refine wp_loop_rounds 3 ?_
  rw [rounds_succ]
  generalize ((w.alloc (.cells #[.slice none 0 0, .slice none 0 0] 25)).alloc (.cells #[.slice none 0 0, .slice none 0 0] 25)).alloc (.cells #[.func (.func 50) #[] #[], .func (.func 52) #[] #[]] 60) = W1 at h0 ⊢
  generalize w.heap.size + 1 + 1 = pb at h0 ⊢
  generalize w.heap.size + 1 = eb at h0 ⊢
  have HS := Lib.hid h0
  have hp0 := blk_cell h0.pc 0
  clear h0
  go_wp2_with (go_at_call 50; refine (part1.calls k a0 l q 0 eb _ _ _ (HS.out.step (below_alloc (Below.refl _ _) _)).ec h1).mono ?_; rintro e w2 ⟨A, c, w1, rfl, hR, hb, rfl⟩; have hs1 := (HS.out.step (below_alloc (Below.refl _ _) _)).step hb; have hs2 := hs1.set0 (.slice A l.length c); have hl2 := Kd.R_lower (Kd.R_set hR hs1.ec (by decide) 0 (.slice A l.length c)) (below_size (HS.out.step (below_alloc (Below.refl _ _) _)).below); clear hs1 hR hb; generalize (World.setCell w1 _ _) = W2 at hs2 hl2 ⊢; have hr0 := blk_cell hs2.rc 0; have hr1 := blk_cell hs2.rc 1; have hf0 := blk_frozen hs2.rc 0; have hf1 := blk_frozen hs2.rc 1; have hp1 := blk_cell hs2.pc 1; have HS2 := Lib.hid hs2; have HL2 := Aside0.mk hl2; clear hs2 hl2)
  clear hr0 hr1 hf0 hf1 hp0
  rw [rounds_succ]
  go_wp2_with (go_at_call 52; refine (part2.calls q m q2 x eb _ _ _ (HS2.out.step (below_alloc (Below.refl _ _) _)).ec h2).mono ?_; rintro e w3 ⟨A2, c2, w3, rfl, hR, hb, rfl⟩; have hs3 := (HS2.out.step (below_alloc (Below.refl _ _) _)).step hb; have hs4 := hs3.set1 (.slice A2 m.length c2); have hm4 := Kd.R_lower (Kd.R_set hR hs3.ec (by decide) 1 (.slice A2 m.length c2)) (below_size (HS2.out.step (below_alloc (Below.refl _ _) _)).below); have hl4 := Kd.R_set (Kd.R_below (Kd.R_alloc HL2.out _) hb) hs3.ec (by decide) 1 (.slice A2 m.length c2); clear hs3 hR hb; generalize (World.setCell w3 _ _) = W4 at hs4 hm4 hl4 ⊢; have hr0 := blk_cell hs4.rc 0; have hr1 := blk_cell hs4.rc 1; have hf0 := blk_frozen hs4.rc 0; have hf1 := blk_frozen hs4.rc 1; have he0 := blk_cell hs4.ec 0; have he1 := blk_cell hs4.ec 1; have HS4 := Lib.hid hs4; have HL4 := Aside0.mk hl4; have HM4 := Aside0.mk hm4; clear hs4 hl4 hm4)
  refine bodyPost_ret (results_ct rfl _ _ w.heap.size 25 #[Value.slice none 0 0, Value.slice none 0 0] (0, 0) _ rfl (blk_put (cs := #[Value.slice none 0 0, .slice none 0 0]) (blk_put (cs := #[.slice none 0 0, .slice none 0 0]) HS4.out.rc 0 _ rfl) 1 _ rfl) Tryz.underlying25 rfl (by kernel_rfl)) rfl ?_
  exact ⟨_, _, rfl, Kd.R_nil _ _ _ _ _, Kd.R_nil _ _ _ _ _, below_set (below_set HS4.out.below (Nat.le_refl _)) (Nat.le_refl _)⟩
set_option maxHeartbeats 4000000 in
set_option maxRecDepth 100000 in
theorem take_no3 (k : Nat) (a0 : ByteArray) (l : List EP) (q : ByteArray) (m : List ES) (q2 : ByteArray) (w : World) (h1 : label_Take.f k a0 = some (l, q, 0)) (h2 : sample_Take.f q = some (m, q2, 0)) (hx : q2.toList ≠ []) :
    Calls Tryz.prog 10 #[.string a0] w (Done w [] [] 2) := by
  have hxb : (q2.toList == []) = false := beq_eq_false_iff_ne.mpr hx
  have hxc : q2.toList.isEmpty = false := by simpa using hx
  have h0 := start_St w
  go_enter Tryz.func10, Tryz.ntmps10
  go_wp2_with (go_at_call 26; refine (parts.calls _).mono ?_; rintro e w1 ⟨rfl, rfl⟩)
  refine wp_loop_rounds 3 ?_
  rw [rounds_succ]
  generalize ((w.alloc (.cells #[.slice none 0 0, .slice none 0 0] 25)).alloc (.cells #[.slice none 0 0, .slice none 0 0] 25)).alloc (.cells #[.func (.func 50) #[] #[], .func (.func 52) #[] #[]] 60) = W1 at h0 ⊢
  generalize w.heap.size + 1 + 1 = pb at h0 ⊢
  generalize w.heap.size + 1 = eb at h0 ⊢
  have HS := Lib.hid h0
  have hp0 := blk_cell h0.pc 0
  clear h0
  go_wp2_with (go_at_call 50; refine (part1.calls k a0 l q 0 eb _ _ _ (HS.out.step (below_alloc (Below.refl _ _) _)).ec h1).mono ?_; rintro e w2 ⟨A, c, w1, rfl, hR, hb, rfl⟩; have hs1 := (HS.out.step (below_alloc (Below.refl _ _) _)).step hb; have hs2 := hs1.set0 (.slice A l.length c); have hl2 := Kd.R_lower (Kd.R_set hR hs1.ec (by decide) 0 (.slice A l.length c)) (below_size (HS.out.step (below_alloc (Below.refl _ _) _)).below); clear hs1 hR hb; generalize (World.setCell w1 _ _) = W2 at hs2 hl2 ⊢; have hr0 := blk_cell hs2.rc 0; have hr1 := blk_cell hs2.rc 1; have hf0 := blk_frozen hs2.rc 0; have hf1 := blk_frozen hs2.rc 1; have hp1 := blk_cell hs2.pc 1; have HS2 := Lib.hid hs2; have HL2 := Aside0.mk hl2; clear hs2 hl2)
  clear hr0 hr1 hf0 hf1 hp0
  rw [rounds_succ]
  go_wp2_with (go_at_call 52; refine (part2.calls q m q2 0 eb _ _ _ (HS2.out.step (below_alloc (Below.refl _ _) _)).ec h2).mono ?_; rintro e w3 ⟨A2, c2, w3, rfl, hR, hb, rfl⟩; have hs3 := (HS2.out.step (below_alloc (Below.refl _ _) _)).step hb; have hs4 := hs3.set1 (.slice A2 m.length c2); have hm4 := Kd.R_lower (Kd.R_set hR hs3.ec (by decide) 1 (.slice A2 m.length c2)) (below_size (HS2.out.step (below_alloc (Below.refl _ _) _)).below); have hl4 := Kd.R_set (Kd.R_below (Kd.R_alloc HL2.out _) hb) hs3.ec (by decide) 1 (.slice A2 m.length c2); clear hs3 hR hb; generalize (World.setCell w3 _ _) = W4 at hs4 hm4 hl4 ⊢; have hr0 := blk_cell hs4.rc 0; have hr1 := blk_cell hs4.rc 1; have hf0 := blk_frozen hs4.rc 0; have hf1 := blk_frozen hs4.rc 1; have he0 := blk_cell hs4.ec 0; have he1 := blk_cell hs4.ec 1; have HS4 := Lib.hid hs4; have HL4 := Aside0.mk hl4; have HM4 := Aside0.mk hm4; clear hs4 hl4 hm4)
  clear hr0 hr1 hf0 hf1
  have hr0 := blk_cell HS4.out.rc 0
  have hr1 := blk_cell HS4.out.rc 1
  have hf0 := blk_frozen HS4.out.rc 0
  have hf1 := blk_frozen HS4.out.rc 1
  rw [rounds_succ]
  go_wp2
  refine bodyPost_ret (results_ct rfl _ _ w.heap.size 25 #[Value.slice none 0 0, Value.slice none 0 0] (0, 0) _ rfl (blk_put (cs := #[Value.slice none 0 0, .slice none 0 0]) (blk_put (cs := #[.slice none 0 0, .slice none 0 0]) HS4.out.rc 0 _ rfl) 1 _ rfl) Tryz.underlying25 rfl (by kernel_rfl)) rfl ?_
  exact ⟨_, _, rfl, Kd.R_nil _ _ _ _ _, Kd.R_nil _ _ _ _ _, below_set (below_set HS4.out.below (Nat.le_refl _)) (Nat.le_refl _)⟩
set_option maxHeartbeats 4000000 in
set_option maxRecDepth 100000 in
theorem take_yes (k : Nat) (a0 : ByteArray) (l : List EP) (q : ByteArray) (m : List ES) (q2 : ByteArray) (w : World) (h1 : label_Take.f k a0 = some (l, q, 0)) (h2 : sample_Take.f q = some (m, q2, 0)) (hx : q2.toList = []) :
    Calls Tryz.prog 10 #[.string a0] w (Done w l m 0) := by
  have hxb : (q2.toList == []) = true := by rw [hx]; rfl
  have hxc : q2.toList.isEmpty = true := by rw [hx]; rfl
  have h0 := start_St w
  go_enter Tryz.func10, Tryz.ntmps10
  go_wp2_with (go_at_call 26; refine (parts.calls _).mono ?_; rintro e w1 ⟨rfl, rfl⟩)
  refine wp_loop_rounds 3 ?_
  rw [rounds_succ]
  generalize ((w.alloc (.cells #[.slice none 0 0, .slice none 0 0] 25)).alloc (.cells #[.slice none 0 0, .slice none 0 0] 25)).alloc (.cells #[.func (.func 50) #[] #[], .func (.func 52) #[] #[]] 60) = W1 at h0 ⊢
  generalize w.heap.size + 1 + 1 = pb at h0 ⊢
  generalize w.heap.size + 1 = eb at h0 ⊢
  have HS := Lib.hid h0
  have hp0 := blk_cell h0.pc 0
  clear h0
  go_wp2_with (go_at_call 50; refine (part1.calls k a0 l q 0 eb _ _ _ (HS.out.step (below_alloc (Below.refl _ _) _)).ec h1).mono ?_; rintro e w2 ⟨A, c, w1, rfl, hR, hb, rfl⟩; have hs1 := (HS.out.step (below_alloc (Below.refl _ _) _)).step hb; have hs2 := hs1.set0 (.slice A l.length c); have hl2 := Kd.R_lower (Kd.R_set hR hs1.ec (by decide) 0 (.slice A l.length c)) (below_size (HS.out.step (below_alloc (Below.refl _ _) _)).below); clear hs1 hR hb; generalize (World.setCell w1 _ _) = W2 at hs2 hl2 ⊢; have hr0 := blk_cell hs2.rc 0; have hr1 := blk_cell hs2.rc 1; have hf0 := blk_frozen hs2.rc 0; have hf1 := blk_frozen hs2.rc 1; have hp1 := blk_cell hs2.pc 1; have HS2 := Lib.hid hs2; have HL2 := Aside0.mk hl2; clear hs2 hl2)
  clear hr0 hr1 hf0 hf1 hp0
  rw [rounds_succ]
  go_wp2_with (go_at_call 52; refine (part2.calls q m q2 0 eb _ _ _ (HS2.out.step (below_alloc (Below.refl _ _) _)).ec h2).mono ?_; rintro e w3 ⟨A2, c2, w3, rfl, hR, hb, rfl⟩; have hs3 := (HS2.out.step (below_alloc (Below.refl _ _) _)).step hb; have hs4 := hs3.set1 (.slice A2 m.length c2); have hm4 := Kd.R_lower (Kd.R_set hR hs3.ec (by decide) 1 (.slice A2 m.length c2)) (below_size (HS2.out.step (below_alloc (Below.refl _ _) _)).below); have hl4 := Kd.R_set (Kd.R_below (Kd.R_alloc HL2.out _) hb) hs3.ec (by decide) 1 (.slice A2 m.length c2); clear hs3 hR hb; generalize (World.setCell w3 _ _) = W4 at hs4 hm4 hl4 ⊢; have hr0 := blk_cell hs4.rc 0; have hr1 := blk_cell hs4.rc 1; have hf0 := blk_frozen hs4.rc 0; have hf1 := blk_frozen hs4.rc 1; have he0 := blk_cell hs4.ec 0; have he1 := blk_cell hs4.ec 1; have HS4 := Lib.hid hs4; have HL4 := Aside0.mk hl4; have HM4 := Aside0.mk hm4; clear hs4 hl4 hm4)
  rw [rounds_succ]
  go_wp2
  refine bodyPost_ret (results_ct rfl _ _ w.heap.size 25 #[.slice A l.length c, .slice A2 m.length c2] (0, 0) _ rfl (blk_put (cs := #[.slice A l.length c, .slice none 0 0]) (blk_put (cs := #[.slice none 0 0, .slice none 0 0]) HS4.out.rc 0 _ rfl) 1 _ rfl) Tryz.underlying25 rfl (by kernel_rfl)) rfl ?_
  have hb1 := blk_put (cs := #[Value.slice none 0 0, .slice none 0 0]) HS4.out.rc 0 (.slice A l.length c) rfl
  exact ⟨_, _, rfl, Kd.R_set (Kd.R_set HL4.out HS4.out.rc (by decide) 0 _) hb1 (by decide) 1 _, Kd.R_set (Kd.R_set HM4.out HS4.out.rc (by decide) 0 _) hb1 (by decide) 1 _, below_set (below_set HS4.out.below (Nat.le_refl _)) (Nat.le_refl _)⟩
theorem entry_Take.calls (k : Nat) (a0 : ByteArray) (r1 : List EP) (r2 : List ES) (r3 : Int) (w : World) (h : entry_Take.f k a0 = some (r1, r2, r3)) :
    Calls Tryz.prog 10 #[.string a0] w fun e w' => ∃ v0_ v1_ : Value, e = .returned (.tuple #[.agg #[v0_, v1_], .int .i64 r3]) ∧ Kd.R k52 52 w' w.heap.size (fun _ => True) v0_ r1 ∧ Kd.R k54 54 w' w.heap.size (fun _ => True) v1_ r2 ∧ Below w.heap.size w w' := by
  unfold entry_Take.f at h
  obtain ⟨⟨l, q, x⟩, h1, h⟩ := Option.bind_eq_some_iff.mp h
  by_cases hx : x = 0
  · subst hx
    rw [if_pos (by exact rfl)] at h
    obtain ⟨⟨m, q2, y⟩, h2, h⟩ := Option.bind_eq_some_iff.mp h
    by_cases hy : y = 0
    · subst hy
      rw [if_pos (by exact rfl)] at h
      by_cases hz : q2.toList = []
      · rw [if_pos (by exact hz)] at h
        simp only [Option.some.injEq, Prod.mk.injEq] at h
        obtain ⟨rfl, rfl, rfl⟩ := h
        exact take_yes k a0 l q m q2 w h1 h2 hz
      · rw [if_neg (by exact hz)] at h
        simp only [Option.some.injEq, Prod.mk.injEq] at h
        obtain ⟨rfl, rfl, rfl⟩ := h
        exact take_no3 k a0 l q m q2 w h1 h2 hz
    · rw [if_neg (by exact hy)] at h
      simp only [Option.some.injEq, Prod.mk.injEq] at h
      obtain ⟨rfl, rfl, rfl⟩ := h
      exact take_no2 k a0 l q m q2 y w h1 h2 hy
  · rw [if_neg (by exact hx)] at h
    simp only [Option.some.injEq, Prod.mk.injEq] at h
    obtain ⟨rfl, rfl, rfl⟩ := h
    exact take_no1 k a0 l q x w h1 hx
end Go.Proofs.YthaegbiblblccaaGreatDoor.XEnt
