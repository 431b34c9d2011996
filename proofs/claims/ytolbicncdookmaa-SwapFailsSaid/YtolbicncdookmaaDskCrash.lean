/- The disk's Crash. Conditions: what a crash leans on (CrashOk). -/
import Derived.Test.YtolbicncdookmaaDskFill

namespace Go.Proofs.Ytolbicncdookmaa.XDsk
open Go Go.RowKit Go.Maps Go.Sort Go.Shelf Go.Proofs.YtolbicncdookmaaW.PrintWords Go.Proofs.YtolbicncdookmaaW.PrintLast Go.Proofs.YtolbicncdookmaaW.PrintMore Go.Proofs.Ytolbicncdookmaa.Num
attribute [local go_sem] max_two min_two
set_option linter.unusedVariables false
set_option linter.unusedSimpArgs false
variable {B b : Nat} {w w1 w2 : World} {L : Lay} {S : PD}
/-- The old disk lies there as it was, and the box of what is kept. -/
structure CW (w : World) (B b : Nat) (L : Lay) (S : PD) (kb : Nat) (kc : Array Value) (W : World) : Prop where
  h : DskL B w L b S
  below : Below w.heap.size w W
  kbx : W.heap[kb]? = some (.cells kc 33 (0, 0))
  ge : w.heap.size ≤ kb
section
variable {kb : Nat} {kc : Array Value} {W W' : World}
theorem CW.d (c : CW w B b L S kb kc W) : DskL B W L b S := c.h.same (fun k hk => c.below.block k (c.h.foot_lt hk).2)
theorem CW.step (c : CW w B b L S kb kc W) (hb : Below W.heap.size W W') : CW w B b L S kb kc W' := ⟨c.h, below_step c.below hb, blk_below c.kbx hb, c.ge⟩
theorem CW.alloc (c : CW w B b L S kb kc W) (o : Obj) : CW w B b L S kb kc (W.alloc o) := c.step (below_alloc (Below.refl _ _) o)
theorem CW.drew (c : CW w B b L S kb kc W) : CW w B b L S kb kc W.drew := ⟨c.h, below_drew c.below, c.kbx, c.ge⟩
theorem CW.drewN (c : CW w B b L S kb kc W) (n : Nat) : CW w B b L S kb kc (W.drewN n) := ⟨c.h, pw_below_drewN c.below n, c.kbx, c.ge⟩
theorem CW.grown {g : Nat} (c : CW w B b L S kb kc W) (hg : W.grownBy W' (some g)) (h1 : w.heap.size ≤ g) (h2 : g ≠ kb) : CW w B b L S kb kc W' :=
  ⟨c.h, c.below.grown hg c.below.size (fun k hk => by injection hk with hk; omega), blk_grown c.kbx hg (fun e => h2 (by injection e with e; exact e.symm)), c.ge⟩
theorem CW.set {g : Nat} (c : CW w B b L S kb kc W) (h1 : w.heap.size ≤ g) (h2 : g ≠ kb) (i : Nat) (u : Value) : CW w B b L S kb kc (W.setCell ⟨g, i, none⟩ u) :=
  ⟨c.h, c.below.setCell (p := ⟨g, i, none⟩) h1 u, blk_far c.kbx (fun e => h2 e.symm) u, c.ge⟩
end
theorem mvV_get : ∀ (ms : List PM) (k : Nat) (hk : k < ms.length), (mvV ms)[k * 3]? = some (.string ms[k].src) ∧ (mvV ms)[k * 3 + 1]? = some (.string ms[k].dst) ∧ (mvV ms)[k * 3 + 2]? = some (.int .i64 ms[k].file)
  | p :: r, 0, _ => ⟨rfl, rfl, rfl⟩
  | p :: r, k + 1, hk => by
    obtain ⟨h1, h2, h3⟩ := mvV_get r k (by simpa using hk)
    unfold mvV at h1 h2 h3 ⊢
    rw [List.flatMap_cons, show (k + 1) * 3 = k * 3 + 1 + 1 + 1 by omega]
    exact ⟨h1, h2, h3⟩
theorem DskL.mv (h : DskL B w L b S) : ∃ A cap, L.vm = .slice A S.moves.length cap ∧ S.moves.length ≤ cap ∧ (A = none → cap = 0) ∧ ∀ (k : Nat) (hk : k < S.moves.length), ∃ g, A = some ⟨g, 0, none⟩ ∧ g < w.heap.size ∧ w.cell? ⟨g, k * 3, none⟩ = some (.string S.moves[k].src) ∧ w.cell? ⟨g, k * 3 + 1, none⟩ = some (.string S.moves[k].dst) ∧ w.cell? ⟨g, k * 3 + 2, none⟩ = some (.int .i64 S.moves[k].file) := by
  rcases h.moves.2 with ⟨e, h0⟩ | ⟨g, cap, cur, e, hb, hg, hl, _⟩
  · exact ⟨none, 0, by rw [h0]; exact e, by omega, fun _ => rfl, fun k hk => by omega⟩
  · refine ⟨some ⟨g, 0, none⟩, cap, e, hl, fun e => by simp at e, fun k hk => ⟨g, rfl, blk_lt hg, ?_, ?_, ?_⟩⟩
    · rw [← add_at]; exact h.moves.cells (g := g) (by rw [e]; rfl) _ _ (mvV_get S.moves k hk).1
    · rw [← add_at]; exact h.moves.cells (g := g) (by rw [e]; rfl) _ _ (mvV_get S.moves k hk).2.1
    · rw [← add_at]; exact h.moves.cells (g := g) (by rw [e]; rfl) _ _ (mvV_get S.moves k hk).2.2
theorem done_any {W : World} {g : Nat} {m : Names} {src dst : ByteArray} {file : Int} (hm : MapAt W g m) (hp : PMok ⟨src, dst, file⟩) (hl : m.length < maxLen) :
    Calls Try.prog 41 #[.agg #[.string src, .string dst, .int .i64 file], .map (some g)] W fun e w' => e = .returned (.tuple #[]) ∧ MapAt w' g (doneN ⟨src, dst, file⟩ m) ∧ W.grownBy w' (some g) := done_calls ⟨src, dst, file⟩ hm hp hl
def MvR (w : World) (B b : Nat) (L : Lay) (S : PD) (kc : Array Value) (nn k : Nat) (wr : World) : Prop :=
  k ≤ nn ∧ CW w B b L S w.heap.size kc wr ∧ MapAt wr (w.heap.size + 1) ((S.moves.take k).foldl (fun n m => doneN m n) S.base)
theorem int_row {W : World} {base n : Nat} {v : Value} {xs : List Int} (h : W.ownsRow base 3 1 v n (xs.map encZ)) (hn : n = xs.length) : ∃ A cap, v = .slice A n cap ∧ (∀ g, A = some g → v.ownBlock = some g.block) ∧ ∀ (k : Nat) (hk : k < xs.length), ∃ g, A = some ⟨g, 0, none⟩ ∧ base ≤ g ∧ g < W.heap.size ∧ W.cell? ⟨g, k, none⟩ = some (.int .i64 xs[k]) := by
  rcases h.2 with ⟨e, h0⟩ | ⟨g, cap, cur, e, hb, hg, hl, _⟩
  · exact ⟨none, 0, by rw [h0]; exact e, (fun g e => by cases e), fun k hk => by omega⟩
  · refine ⟨some ⟨g, 0, none⟩, cap, e, fun g' hg' => by injection hg' with hg'; subst hg'; rw [e]; rfl, fun k hk => ⟨g, rfl, hb, blk_lt hg, ?_⟩⟩
    rw [← add_at]
    exact h.cells (g := g) (by rw [e]; rfl) k _ (by rw [List.getElem?_map, List.getElem?_eq_getElem hk]; rfl)
theorem nums_row {W0 W : World} {fm base : Nat} {v : Value} {ss : List Int} {l : Nums} {K : Names} (hI : MapI W0 fm l) (hv : VDist K) (he : ∀ i nm, (i, nm) ∈ l ↔ (nm, i) ∈ K) (hp : ss.Perm (intKeys (mapI l))) (hr : W.ownsRow base 3 1 v ss.length ((ss.mergeSort (fun x y => decide (x ≤ y))).map encZ)) :
    ∃ A cap, v = .slice A (numsOf K).length cap ∧ ∀ (k : Nat) (hk : k < (numsOf K).length), ∃ g, A = some ⟨g, 0, none⟩ ∧ base ≤ g ∧ g < W.heap.size ∧ W.cell? ⟨g, k, none⟩ = some (.int .i64 (numsOf K)[k]) := by
  rw [intKeys_mapI] at hp
  have h1 := nums_eq hI.rising hv he hp
  have h2 : ss.length = (numsOf K).length := by rw [← h1, List.length_mergeSort]
  rw [h1] at hr
  rw [h2] at hr
  obtain ⟨A, cap, e, _, h3⟩ := int_row hr rfl
  exact ⟨A, cap, e, h3⟩
/-- A file is put behind the others: what stands behind the append. -/
theorem add_mid {B ob g cap : Nat} {w2 w3 : World} {Lo : Lay} {So : PD} {s : ByteArray} {y : Value} (h2 : DskL B w2 Lo ob So) (hB : B ≤ w2.heap.size)
    (hown : w3.ownsRow B 60 1 (.slice (some ⟨g, 0, none⟩) (Lo.fs.length + 1) cap) (Lo.fs.length + 1) (ptrs Lo.fs ++ [.pointer (some ⟨w2.heap.size, 0, none⟩)]))
    (hgrow : ((w2.alloc (.cells #[.string s, .string s, .slice none 0 0] 66)).alloc (.cells #[y] 60)).grownBy w3 Lo.vf.ownBlock) (hat : Lo.vf.ownBlock = some g ∨ g = w2.heap.size + 2) :
    (w3.cell? ⟨ob, 1, none⟩ = some Lo.vf ∧ ∀ j, w3.frozen? ⟨ob, j, none⟩ = false) ∧ Went B w2 Lo ob { So with files := So.files ++ [⟨s, s, []⟩] } (w3.setCell ⟨ob, 1, none⟩ (.slice (some ⟨g, 0, none⟩) (Lo.fs.length + 1) cap)) := by
  have h3 := (h2.alloc (.cells #[.string s, .string s, .slice none 0 0] 66)).alloc (.cells #[y] 60)
  have hfb : ((w2.alloc (.cells #[.string s, .string s, .slice none 0 0] 66)).alloc (.cells #[y] 60)).heap[w2.heap.size]? = some (.cells #[.string s, .string s, .slice none 0 0] 66 (0, 0)) := blk_alloc (blk_new w2 _) _
  have hne : Lo.vf.ownBlock ≠ some ob := fun e => by obtain ⟨cur, hb⟩ := row_obj h3.files e; exact blk_ne hb h3.box (by decide) rfl
  have hb3 := blk_grown h3.box hgrow (fun e => hne e.symm)
  have h4 := h3.addFile (s := s) hfb (by omega) (fun p hp => by obtain ⟨f, hf⟩ := h2.of_mem hp; have := blk_lt hf.blk; omega) (by rw [ptrs_snoc]; exact hown) hgrow
  have hu4 : Upto (foot Lo ob) w2 (w3.setCell ⟨ob, 1, none⟩ (.slice (some ⟨g, 0, none⟩) (Lo.fs.length + 1) cap)) :=
    (((((Upto.refl (foot Lo ob) w2).alloc _).alloc _).grown hgrow (fun j hj => .inl (.inr (.inr (.inr (.inl hj)))))).setCell (.inl (.inl rfl)) _)
  refine ⟨⟨(blk_cell hb3 1).trans rfl, blk_frozen hb3⟩, _, h4, hu4, fun k hk => ?_⟩
  rcases hk with hk | hk | hk | hk | hk | ⟨p, hp, hk⟩
  · exact .inl (.inl hk)
  · exact .inl (.inr (.inl hk))
  · exact .inl (.inr (.inr (.inl hk)))
  · injection hk with hk
    subst hk
    rcases hat with e | e
    · exact .inl (.inr (.inr (.inr (.inl e))))
    · right; show w2.heap.size ≤ g; omega
  · exact .inl (.inr (.inr (.inr (.inr (.inl hk)))))
  · rcases List.mem_append.1 hp with hp | hp
    · exact .inl (.inr (.inr (.inr (.inr (.inr ⟨p, hp, hk⟩)))))
    · rw [List.mem_singleton] at hp
      subst hp
      rcases hk with hk | hk
      · right; rw [hk]; exact Nat.le_refl _
      · simp [Value.ownBlock] at hk
theorem below_of_grown {W W' : World} (h : W.grownBy W' none) : Below W.heap.size W W' := ⟨h.os, h.tape, h.output, h.size, fun k hk => h.block k hk (by simp)⟩
def FlR (w : World) (B b : Nat) (L : Lay) (S : PD) (kc : Array Value) (K : Names) (fm : Nat) (left : Lit → Bool) (cnt : Nat) (l : Nums) (wr : World) : Prop :=
  wr.ranges Try.prog 9 (plainElem Try.prog 3) (w.heap.size + 1) (fm + 1) K.length (mapD K) left cnt ∧ CW w B b L S w.heap.size kc wr ∧ MapI wr fm l ∧ FillOk K left l ∧ l.length + cnt ≤ K.length
theorem length_putI (m : Nums) (i : Int) (s : ByteArray) : (putI m i s).length ≤ m.length + 1 := by
  have h1 : ∀ (x : Int × ByteArray) (l : Nums), (insI x l).length = l.length + 1 := fun x l => by
    induction l with
    | nil => rfl
    | cons y l ih =>
      by_cases h : x.1 < y.1
      · rw [insI, if_pos h]; rfl
      · rw [insI, if_neg h, List.length_cons, ih]; rfl
  unfold putI
  rw [h1]
  have := List.length_filter_le (fun p : Int × ByteArray => !(p.1 == i)) m
  omega
theorem CW.upto {F : Nat → Prop} {kc : Array Value} {W W' : World} (c : CW w B b L S w.heap.size kc W) (hu : Upto F W W') (hF : ∀ k, F k → w.heap.size < k) : CW w B b L S w.heap.size kc W' :=
  ⟨c.h, c.below.trans (hu.below (fun k hk => Nat.le_of_lt (hF k hk)) c.below.size), (hu.block _ (blk_lt c.kbx) (fun hk => Nat.lt_irrefl _ (hF _ hk))).trans c.kbx, c.ge⟩
/-- The disk that comes of it, with so many files. -/
structure OutR (w : World) (B b : Nat) (L : Lay) (S : PD) (kc : Array Value) (K : Names) (ks : List Int) (fm : Nat) (l : Nums) (B3 ob : Nat) (xs : List Int) (vA : Option Addr) (k : Nat) (Lo : Lay) (W : World) : Prop where
  le : k ≤ xs.length
  d : DskL B3 W Lo ob ((xs.take k).foldl (crashStep S ks K) (newD S.room))
  cw : CW w B b L S w.heap.size kc W
  mi : MapI W fm l
  far : ∀ g, 0 < xs.length → vA = some ⟨g, 0, none⟩ → ¬ foot Lo ob g
  row : ∀ (j : Nat) (hj : j < xs.length), ∃ g, vA = some ⟨g, 0, none⟩ ∧ W.cell? ⟨g, j, none⟩ = some (.int .i64 xs[j])
section
variable {kc : Array Value} {K : Names} {ks : List Int} {fm B3 ob k : Nat} {l : Nums} {xs : List Int} {vA : Option Addr} {Lo Lo' : Lay} {W W' : World}
theorem OutR.step (h : OutR w B b L S kc K ks fm l B3 ob xs vA k Lo W) (hb : Below W.heap.size W W') : OutR w B b L S kc K ks fm l B3 ob xs vA k Lo W' :=
  ⟨h.le, h.d.below hb, h.cw.step hb, h.mi.same (hb.block fm h.mi.lt), h.far, fun j hj => by
    obtain ⟨g, e1, e2⟩ := h.row j hj
    have hbk : g < W.heap.size := World.block_lt_of_cell? W _ e2
    exact ⟨g, e1, (hb.cell (p := ⟨g, j, none⟩) hbk).trans e2⟩⟩
theorem OutR.drew (h : OutR w B b L S kc K ks fm l B3 ob xs vA k Lo W) : OutR w B b L S kc K ks fm l B3 ob xs vA k Lo W.drew := h.step (below_drew (Below.refl _ _))
theorem OutR.next (h : OutR w B b L S kc K ks fm l B3 ob xs vA k Lo W) (hk : k < xs.length) (h3 : fm < B3) (h4 : w.heap.size < fm) (hd : DskL B3 W' Lo' ob (crashStep S ks K ((xs.take k).foldl (crashStep S ks K) (newD S.room)) xs[k])) (hu : Upto (foot Lo ob) W W') (hf : ∀ j, foot Lo' ob j → foot Lo ob j ∨ W.heap.size ≤ j) :
    OutR w B b L S kc K ks fm l B3 ob xs vA (k + 1) Lo' W' := by
  refine ⟨hk, ?_, h.cw.upto hu (fun j hj => by have := (h.d.foot_lt hj).1; omega), h.mi.same (hu.block fm h.mi.lt (fun hj => by have := (h.d.foot_lt hj).1; omega)), fun g hg hA hj => ?_, fun j hj => ?_⟩
  · rw [List.take_succ_eq_append_getElem hk, List.foldl_append]
    exact hd
  · rcases hf g hj with e | e
    · exact h.far g hg hA e
    · obtain ⟨g2, e1, e2⟩ := h.row 0 hg
      rw [hA] at e1
      injection e1 with e1
      injection e1 with e1 _
      have : g2 < W.heap.size := World.block_lt_of_cell? W _ e2
      omega
  · obtain ⟨g, e1, e2⟩ := h.row j hj
    have hbk : g < W.heap.size := World.block_lt_of_cell? W _ e2
    refine ⟨g, e1, ?_⟩
    rw [← e2]
    exact World.cell?_of_block (hu.block g hbk (h.far g (by omega) e1))
end
theorem step_files (S : PD) (ks : List Int) (K : Names) : ∀ (xs : List Int) (o : PD), (xs.foldl (crashStep S ks K) o).files.length = o.files.length + xs.length ∧ (xs.foldl (crashStep S ks K) o).names.length ≤ o.names.length + xs.length
  | [], o => ⟨rfl, Nat.le_refl _⟩
  | x :: r, o => by
    obtain ⟨h1, h2⟩ := step_files S ks K r (crashStep S ks K o x)
    have h3 : (crashStep S ks K o x).files.length = o.files.length + 1 := by unfold crashStep; rw [List.length_append]; rfl
    have h4 : (crashStep S ks K o x).names.length ≤ o.names.length + 1 := length_put _ _ _
    rw [List.foldl_cons, List.length_cons]
    omega
theorem files_form {W : World} {Lo : Lay} {ob B3 : Nat} {So : PD} (h : DskL B3 W Lo ob So) : ∃ fA fcap, Lo.vf = .slice fA Lo.fs.length fcap := by
  rcases h.files.2 with ⟨e, h0⟩ | ⟨g, cap, cur, e, _⟩
  · exact ⟨none, 0, by rw [h0]; exact e⟩
  · exact ⟨_, cap, e⟩
theorem two_newS (w : World) (s : ByteArray) (x y : Value) : ((w.alloc (.cells #[.string s, .string s, x] 66)).alloc (.cells #[y] 60)).heap[w.heap.size + 1]? = some (.cells #[y] 60 (0, 0)) := by
  have := heap_alloc_new (w.alloc (.cells #[.string s, .string s, x] 66)) (.cells #[y] 60)
  simpa using this
set_option maxHeartbeats 8000000 in
set_option maxRecDepth 100000 in
theorem crash_calls {A : Option Addr} {c : Nat} {dir : Int} {ks : List Int} (h : DskL B w L b S) (hB : B ≤ w.heap.size) (hS : CrashOk S dir) (hA : Kd.C (Kd.int .i64) w A ks.length ks) (hc : ks.length ≤ c) (hw : ∀ x ∈ ks, (Lit.int .i64 x).wf = true) :
    Calls Try.prog 16 #[.pointer (some ⟨b, 0, none⟩), .agg #[.int .i64 dir, .slice A ks.length c]] w (NewAt w (crashD S dir ks)) := by
  have hC0 : CW w B b L S w.heap.size #[.int .i64 dir, .slice A ks.length c] (w.alloc (.cells #[.int .i64 dir, .slice A ks.length c] 33)) := ⟨h, below_alloc (Below.refl _ _) _, blk_new w _, Nat.le_refl _⟩
  obtain ⟨mA, mcap, hvm, hml, hmn, hmv⟩ := h.mv
  obtain ⟨m, hm⟩ : ∃ m, S.moves.length = m := ⟨_, rfl⟩
  obtain ⟨nn, hnn⟩ : ∃ nn : Nat, max 0 (min dir (m : Int)) = (nn : Int) := ⟨(max 0 (min dir (m : Int))).toNat, by omega⟩
  have hnm : nn ≤ m := by omega
  obtain ⟨c0, c1, c2, c3, c4, c5, c6, c7, f⟩ := hC0.d.cells
  have HC0 := Lib.hid hC0
  have HS := Lib.hid hS
  have HA := Lib.hid hA
  have HCC := Lib.hid hc
  have HW := Lib.hid hw
  have HMV := Lib.hid hmv
  have HM := Lib.hid hm
  have HMN := Lib.hid hmn
  have HVM := Lib.hid hvm
  have HB := Lib.hid hB
  have HNN := Lib.hid hnn
  rw [hm] at hml hvm
  have hmm : m ≤ 1000000 := by rw [← hm]; exact hS.moves
  clear c0 c1 c2 c4 c5 c6 c7 f h hS hA hw hmv hm hmn hC0 hB hnn
  go_enter Try.func16, Try.ntmps16
  go_wp2_with (go_at_call 40; refine (clone_calls HC0.out.d.base).mono ?_; rintro e w1 ⟨rfl, hm1, hb1⟩; have hC1 := HC0.out.step hb1; obtain ⟨d0, d1, d2, d3, d4, d5, d6, d7, f⟩ := hC1.d.cells; rw [hvm] at d4; have kb0 : w1.cell? ⟨w.heap.size, 0, none⟩ = some (.int .i64 dir) := (blk_cell hC1.kbx 0).trans rfl; have HC1 := Lib.hid hC1; have HM1 := Lib.hid hm1; clear d0 d1 d2 d3 d5 d6 d7 f hb1 hm1 hC1 c3)
  obtain ⟨q, hq⟩ : ∃ q, min dir (m : Int) = q := ⟨_, rfl⟩
  have hq1 : ∀ k k' : IntKind, Builtin.min2 (.int k dir) (.int k' (m : Int)) = pure (.int k q) := fun k k' => by
    rw [min2_int, ← hq]
    by_cases hlt : (m : Int) < dir
    · rw [if_pos hlt, Int.min_eq_right (by omega)]
    · rw [if_neg hlt, Int.min_eq_left (by omega)]
  have hq2 : ∀ k k' : IntKind, Builtin.max2 (.int k 0) (.int k' q) = pure (.int k (nn : Int)) := fun k k' => by
    have e := HNN.out
    rw [hq] at e
    rw [max2_int, ← e]
    by_cases hlt : 0 < q
    · rw [if_pos hlt, Int.max_eq_right (by omega)]
    · rw [if_neg hlt, Int.max_eq_left (by omega)]
  clear hq
  have hn1 : (nn : Int) ≤ (mcap : Int) := by omega
  have hn0 : (0 : Int) ≤ (nn : Int) := by omega
  go_quiet (fail)
  have HC2 := Lib.hid (HC1.out.drewN nq)
  have HM2 := Lib.hid (show MapAt (w1.drewN nq) (w.heap.size + 1) S.base from MapAt.same (w := w1) (by simpa using HM1.out) rfl)
  clear HC0 HC1 HM1 d4 kb0 hq1 hq2 hvm
  generalize w1.drewN nq = w2 at HC2 HM2 ⊢
  go_wp2_with fail
  go_loopw [36] (fun v36 wr => ∃ k : Nat, v36 = .int .i64 (k : Int) ∧ Aside0 (MvR w B b L S #[.int .i64 dir, .slice A ks.length c] nn k wr)) (fun v36 _ => nn - (intOf v36).toNat)
  case atStart => exact ⟨0, rfl, ⟨Nat.zero_le _, HC2.out, HM2.out⟩⟩
  case round =>
    obtain ⟨k, rfl, HR⟩ := hrel
    clear HC2 HM2
    by_cases hlt : k < nn
    · have hks : k < S.moves.length := by rw [HM.out]; omega
      obtain ⟨g, rfl, hgl, x0, x1, x2⟩ := HMV.out k hks
      obtain ⟨⟨src, dst, file⟩, hpm⟩ : ∃ q, S.moves[k] = q := ⟨_, rfl⟩
      rw [hpm] at x0 x1 x2
      have hbl := HR.out.2.1.below
      have y0 : wr.cell? ⟨g, k * 3, none⟩ = some (.string src) := (hbl.cell (p := ⟨g, k * 3, none⟩) hgl).trans x0
      have y1 : wr.cell? ⟨g, k * 3 + 1, none⟩ = some (.string dst) := (hbl.cell (p := ⟨g, k * 3 + 1, none⟩) hgl).trans x1
      have y2 : wr.cell? ⟨g, k * 3 + 2, none⟩ = some (.int .i64 file) := (hbl.cell (p := ⟨g, k * 3 + 2, none⟩) hgl).trans x2
      have HPM := Lib.hid (HS.out.mv _ (List.getElem_mem hks))
      rw [hpm] at HPM
      have HTK := Lib.hid (show (S.moves.take (k + 1)).foldl (fun n m => doneN m n) S.base = doneN ⟨src, dst, file⟩ ((S.moves.take k).foldl (fun n m => doneN m n) S.base) by rw [List.take_succ_eq_append_getElem hks, List.foldl_append, hpm]; rfl)
      have HLL := Lib.hid (show ((S.moves.take k).foldl (fun n m => doneN m n) S.base).length < maxLen by
        have h1 := length_dones (S.moves.take k) S.base
        have h2 := HS.out.base
        have h3 := HS.out.moves
        rw [List.length_take] at h1
        unfold maxLen; omega)
      have HDN := Lib.hid (fun (o : Obj) => done_any (HR.out.2.2.alloc o) HPM.out HLL.out)
      clear x0 x1 x2 hbl hgl hpm hks
      go_wp2_with (go_at_call 41; (with_reducible refine (HDN.out _).mono ?_); rintro e w3 ⟨rfl, hm3, hg3⟩; have HM3 := Lib.hid hm3; have HG3 := Lib.hid hg3; clear hm3 hg3)
      go_roundw
      case rel =>
        obtain ⟨es, cc, hob⟩ := HR.out.2.2.obj
        refine ⟨k + 1, by go_num, ⟨hlt, (HR.out.2.1.alloc _).grown HG3.out (by omega) (fun e => map_ne hob HR.out.2.1.kbx e), ?_⟩⟩
        rw [HTK.out]
        exact HM3.out
      case measure => simp [intOf]; omega
    · have hkn : k = nn := by have := HR.out.1; omega
      have hkept : (S.moves.take k).foldl (fun n m => doneN m n) S.base = keptN S dir := by
        unfold keptN
        rw [HM.out, HNN.out, hkn, Int.toNat_natCast]
      have hm4 := HR.out.2.2
      rw [hkept] at hm4
      have hidx := HS.out.idx
      have hvd := HS.out.vd
      have hKl : (keptN S dir).length ≤ 2000000 := by
        rw [← hkept]
        have h1 := length_dones (S.moves.take k) S.base
        have h2 := HS.out.base
        have h3 := HS.out.moves
        rw [List.length_take] at h1
        omega
      obtain ⟨K, hK⟩ : ∃ K, keptN S dir = K := ⟨_, rfl⟩
      have HK := Lib.hid hK
      rw [hK] at hm4 hidx hvd hKl
      have HC4 := Lib.hid HR.out.2.1
      have HM4 := Lib.hid hm4
      have HIDX := Lib.hid hidx
      have HVD := Lib.hid hvd
      have HKL := Lib.hid hKl
      clear hkept hm4 hidx hvd hKl hK HR hkn
      have hmm2 := @run_makeMap Try.prog
      go_wp2_with (first
        | (at_range; refine wpList_range_own _ rfl _ 55 rfl 9 3 law_s Try.underlying55 _ (w.heap.size + 1) K.length (mapD K) rfl (HM4.out.alloc _) ?_; intro w5 hrg0 hg0 hs0)
        | go_in)
      go_frame
      obtain ⟨fm, hfm⟩ : ∃ fm, fm = wr.heap.size := ⟨_, rfl⟩
      have hfw : w.heap.size + 1 < fm := by rw [hfm]; exact HM4.out.lt
      have hge5 : w5.heap.size = fm + 2 := by rw [hfm]; simpa using hs0
      have hC5 : CW w B b L S w.heap.size #[.int .i64 dir, .slice A ks.length c] w5 := (HC4.out.alloc (.map #[] 0)).step (below_of_grown hg0)
      have hI5 : MapI w5 fm [] := mapI_made w5 fm (by rw [hfm]; exact blk_grown (blk_new wr (.map #[] 0)) hg0 (fun e => by cases e))
      have hr5 : w5.ranges Try.prog 9 (plainElem Try.prog 3) (w.heap.size + 1) (fm + 1) K.length (mapD K) (Maps.has (mapD K)) (Maps.size (mapD K)) := by rw [hfm]; simpa using hrg0
      have HFW := Lib.hid hfw
      have H5 := Lib.hid (show FlR w B b L S #[.int .i64 dir, .slice A ks.length c] K fm (Maps.has (mapD K)) (Maps.size (mapD K)) [] w5 from ⟨hr5, hC5, hI5, fill_start K, by rw [size_mapD]; simp⟩)
      have HDK := Lib.hid HM4.out.dist
      have HKS := Lib.hid HM4.out.keys_le
      rw [← hfm]
      have e1 : (wr.alloc (.map #[] 0)).heap.size = fm + 1 := by rw [hfm]; simp
      rw [e1]
      clear hrg0 hg0 hs0 hfm hfw hge5 hC5 hI5 hr5 HC4 HM4 hmm2 e1
      go_loopw [10] (fun _ wr => ∃ (left : Lit → Bool) (cnt : Nat) (l : Nums), Aside0 (FlR w B b L S #[.int .i64 dir, .slice A ks.length c] K fm left cnt l wr)) (fun _ wr => wr.rangeLeft (w.heap.size + 1) (fm + 1))
      case atStart => exact ⟨_, _, _, ⟨H5.out⟩⟩
      case round =>
        obtain ⟨left, cnt, l, HR⟩ := hrel
        clear H5
        go_wp2_with (first
          | (at_next; refine wp_next_names _ rfl _ rfl (w.heap.size + 1) (fm + 1) K.length K _ _ rfl HR.out.1 ?_ ?_)
          | go_in)
        · intro _ hl0
          have HEND := Lib.hid (fill_end HR.out.2.2.2.1 hl0)
          have HC6 := Lib.hid HR.out.2.1
          have HI6 := Lib.hid HR.out.2.2.1
          have hll : l.length ≤ 2000000 := by have h1 := HR.out.2.2.2.2; have h2 := HKL.out; omega
          have HLL := Lib.hid hll
          have c0 := HC6.out.d.cells.1
          clear hl0 HR hll
          obtain ⟨rm, hrm⟩ : ∃ rm, S.room = rm := ⟨_, rfl⟩
          rw [hrm] at c0
          have HRM := Lib.hid hrm
          have HSRT := Lib.hid (fun (W : World) (hm : MapI W fm l) => sortedI_calls fm l.length (mapI l) (plainElem Try.prog 9) W hm (by rw [size_mapI]; have := HLL.out; unfold maxLen; omega) (by rw [size_mapI]; have := HLL.out; omega))
          clear hrm
          go_wp2_with (first
            | (go_at_call 11; refine (new_calls _ _).mono ?_; rintro e w8 ⟨ob, Lo, rfl, hD8, hb8⟩; have HD8 := Lib.hid hD8; have HB8 := Lib.hid hb8; have HI8 := Lib.hid (HI6.out.same (hb8.block fm HI6.out.lt)); have HC8 := Lib.hid (HC6.out.step hb8); clear hD8 hb8 c0)
            | (go_at_call 43; refine (keysI_calls _ _).mono ?_; rintro e w' ⟨rfl, rfl⟩)
            | (go_at_call 42; refine (HSRT.out _ HI8.out).mono ?_; rintro e w9 ⟨v, ss, rfl, hperm, hrow, hnil, hb9⟩; obtain ⟨vA, vcap, rfl, hvc⟩ := nums_row HI8.out HVD.out HEND.out hperm hrow; have HVC := Lib.hid hvc; have HB9 := Lib.hid hb9; clear hperm hrow hnil hb9 hvc))
          obtain ⟨xs, hxs⟩ : ∃ xs, numsOf K = xs := ⟨_, rfl⟩
          have HXS := Lib.hid hxs
          have H9 : OutR w B b L S #[.int .i64 dir, .slice A ks.length c] K ks fm l wr.heap.size ob xs vA 0 Lo w9 := by
            have hb8 : Below w8.heap.size w8 w9 := ((Below.refl w8.heap.size w8).alloc (Nat.le_refl _) _).trans (HB9.out.mono (by simp))
            refine ⟨Nat.zero_le _, ?_, HC8.out.step hb8, HI8.out.same (hb8.block fm HI8.out.lt), fun g hx0 hg hk => ?_, fun j hj => ?_⟩
            · have h1 := HD8.out.below hb8
              rw [HRM.out]
              exact h1
            · have h1 := (HD8.out.foot_lt hk).2
              have h2 := HVC.out
              rw [hxs] at h2
              obtain ⟨g2, e1, e2, _⟩ := h2 0 hx0
              rw [hg] at e1
              injection e1 with e1
              injection e1 with e1 _
              have : (w8.alloc (.cells #[.map (some fm)] 74)).heap.size = w8.heap.size + 1 := by simp
              omega
            · have h2 := HVC.out
              rw [hxs] at h2
              obtain ⟨g2, e1, _, _, e4⟩ := h2 j hj
              exact ⟨g2, e1, e4⟩
          rw [hxs]
          have hfm3 := HI6.out.lt
          obtain ⟨B3, hB3⟩ : ∃ B3, wr.heap.size = B3 := ⟨_, rfl⟩
          rw [hB3] at H9 hfm3
          have HF3 := Lib.hid hfm3
          have HO9 := Lib.hid H9
          clear hxs H9 hB3 hfm3 HD8 HB8 HI8 HC8 HVC HB9 HC6 HI6 HSRT HRM
          go_loopw [64] (fun v64 W => ∃ (k : Nat) (Lo : Lay), v64 = .int .i64 (k : Int) ∧ Aside0 (OutR w B b L S #[.int .i64 dir, .slice A ks.length c] K ks fm l B3 ob xs vA k Lo W)) (fun v64 _ => xs.length - (intOf v64).toNat)
          case atStart => exact ⟨0, _, rfl, ⟨HO9.out⟩⟩
          case round =>
            obtain ⟨j, Lq, rfl, HR⟩ := hrel
            clear HO9
            by_cases hj : j < xs.length
            · obtain ⟨i, hi⟩ : ∃ i, xs[j] = i := ⟨_, rfl⟩
              have hdx := List.drop_eq_getElem_cons hj
              obtain ⟨nm, hnm2⟩ : ∃ nm, (nm, i) ∈ K := nums_mem.1 (by rw [HXS.out, ← hi]; exact List.getElem_mem hj)
              obtain ⟨hi0, hi1⟩ := HIDX.out _ hnm2
              simp only at hi0 hi1
              have hSf := HS.out.files
              have hwi : (Lit.int .i64 i).wf = true := wf_of (by omega) (by omega)
              have hget : getI l i = some nm := (getI_iff HR.out.mi.rising i nm).2 ((HEND.out i nm).2 hnm2)
              have hnof : nameOf K i = nm := nameOf_eq HVD.out hnm2
              have hnsz : nm.size ≤ maxLen := HKS.out _ hnm2
              obtain ⟨rg, hrA, hrc⟩ := HR.out.row j hj
              rw [hi] at hrc
              subst hrA
              have hil : i.toNat < S.files.length := by omega
              obtain ⟨p, hp, hF⟩ := HR.out.cw.d.at_ hil
              have hfe : S.files[i.toNat] = fileOf S i := by unfold fileOf; rw [List.getElem?_eq_getElem hil]; rfl
              rw [hfe] at hF
              obtain ⟨g1, cap1, hv1, hpc, hpl⟩ := HR.out.cw.d.ptr hi0 hp
              obtain ⟨c0, c1, c2, c3, c4, c5, c6, c7, f⟩ := HR.out.cw.d.cells
              rw [hv1] at c1
              have kb1 : wr.cell? ⟨w.heap.size, 1, none⟩ = some (.slice A ks.length c) := (blk_cell HR.out.cw.kbx 1).trans rfl
              obtain ⟨hch1, hch2, hch3, hch4⟩ := HS.out.ch (fileOf S i) (by rw [← hfe]; exact List.getElem_mem hil)
              obtain ⟨mo, hmo⟩ : ∃ mo, momentsOf ks i = mo := ⟨_, rfl⟩
              have hmw : -9223372036854775808 ≤ mo ∧ mo < 9223372036854775808 := by
                rw [← hmo]; unfold momentsOf
                by_cases hik : i < (ks.length : Int)
                · rw [if_pos hik]
                  have hit : i.toNat < ks.length := by omega
                  have := wf_i64 (HW.out ks[i.toNat] (List.getElem_mem hit))
                  rw [List.getD_eq_getElem?_getD, List.getElem?_eq_getElem hit]
                  exact this
                · rw [if_neg hik]; omega
              have hat := at_calls (m := mo) hF hch1 hch2 hch3 hch4 hmw
              obtain ⟨sx, hsx⟩ : ∃ sx, atF (fileOf S i) mo = sx := ⟨_, rfl⟩
              rw [hsx] at hat
              have HAT := Lib.hid hat
              have HSX := Lib.hid hsx
              clear hat hsx
              have HWI := Lib.hid hwi
              have HGET := Lib.hid hget
              have HNOF := Lib.hid hnof
              have HNSZ := Lib.hid hnsz
              have HMO := Lib.hid hmo
              have HXI := Lib.hid hi
              clear hdx hnm2 hSf hwi hget hnof hnsz hil hp hF hfe hv1 c0 c2 c3 c4 c5 c6 c7 f hch1 hch2 hch3 hch4 hmw hi
              by_cases hik : i < (ks.length : Int)
              case' pos =>
                obtain ⟨ad, hAd, hac⟩ := Kd.at_int HA.out i hi0 hik
                subst hAd
                have hmr : ks.getD i.toNat 0 = mo := by have h1 := HMO.out; unfold momentsOf at h1; rw [if_pos hik] at h1; exact h1
                have hac2 : wr.cell? (ad.add i.toNat) = some (.int .i64 mo) := by
                  have hbk : (ad.add i.toNat).block < w.heap.size := World.block_lt_of_cell? w _ hac
                  rw [HR.out.cw.below.cell hbk, ← hmr]; exact hac
                clear hac hmr hmo
                go_wp2_with (go_at_call 44; (with_reducible refine HAT.out.mono ?_); rintro e w10 ⟨rfl, hb10⟩; have HB10 := Lib.hid hb10; clear hb10)
                clear hac2
              case' neg =>
                have hm0 : mo = 0 := by have h1 := HMO.out; unfold momentsOf at h1; rw [if_neg hik] at h1; exact h1.symm
                clear hmo
                subst hm0
                go_wp2_with (go_at_call 44; (with_reducible refine HAT.out.mono ?_); rintro e w10 ⟨rfl, hb10⟩; have HB10 := Lib.hid hb10; clear hb10)
              all_goals
                have hO := HR.out.step HB10.out
                have hrun : ∀ d, (Instr.lookup 74 (.map (some fm)) (.int .i64 i) false).run Try.prog { heap := w10.heap, tape := w10.tape, drawn := d, os := w10.os, output := w10.output } = .ok (.string nm) { heap := w10.heap, tape := w10.tape, drawn := d, os := w10.os, output := w10.output } := fun d => run_getI (MapI.same hO.mi rfl) HGET.out HWI.out
                have hrun2 := run_getI (MapI.same (w' := w10.drew) hO.mi rfl) HGET.out HWI.out
                obtain ⟨fA, fcap, hvf⟩ := files_form hO.d
                obtain ⟨d0, d1, d2, d3, d4, d5, d6, d7, f⟩ := hO.d.cells
                rw [hvf] at d1
                have HO := Lib.hid hO
                have HVF := Lib.hid hvf
                clear d0 d3 d4 d5 d6 d7 f hO hvf c1 hrc hpc hpl kb1
                go_still_tail 12, (by kernel_rfl)
                change wpList _ _ _ _ _ w10.drew
                have HO2 := Lib.hid HO.out.drew
                clear hrun hrun2 d2 d1 HO
                generalize w10.drew = w11 at HO2 ⊢
                obtain ⟨So, hSo⟩ : ∃ So, (xs.take j).foldl (crashStep S ks K) (newD S.room) = So := ⟨_, rfl⟩
                have hlen := step_files S ks K (xs.take j) (newD S.room)
                rw [hSo, List.length_take] at hlen
                have hD2 := HO2.out.d
                rw [hSo] at hD2
                have HD2 := Lib.hid hD2
                have HSO := Lib.hid hSo
                have hxl : xs.length ≤ 2000000 := by rw [← HXS.out]; unfold numsOf; rw [List.length_mergeSort, List.length_map]; exact HKL.out
                have hfl : So.files.length ≤ 2000000 := by have := hlen.1; simp only [newD, List.length_nil] at this; omega
                have hnl : So.names.length ≤ 2000000 := by have := hlen.2; simp only [newD, List.length_nil] at this; omega
                have hql : Lq.fs.length ≤ 2000000 := by rw [hD2.len]; exact hfl
                have HQL := Lib.hid hql
                have HWQ := Lib.hid (wf_of (x := (Lq.fs.length : Int)) (by omega) (by omega))
                have HNL := Lib.hid (show So.names.length < maxLen by unfold maxLen; omega)
                obtain ⟨i0_, hi0_, hz0, hz1, hz2⟩ := info_parts info_fptr
                have HZ := Lib.hid hi0_
                have HZ0 := Lib.hid hz0
                have HZ1 := Lib.hid hz1
                have HZ2 := Lib.hid hz2
                have HB11 := Lib.hid HO2.out.cw.below.size
                clear hSo hlen hD2 hfl hnl hql hi0_ hz0 hz1 hz2
                go_wp2_with (first
                  | (at_mapUpdate; refine wp_put _ HD2.out.names HNSZ.out HNL.out HWQ.out rfl _ _ _ rfl rfl rfl rfl ?_; intro w12 hm12 hg12; have hd12 := HD2.out.setNames hm12 hg12; obtain ⟨y0, y1, y2, y3, y4, y5, y6, y7, fy⟩ := hd12.cells; rw [HVF.out] at y1; have HD12 := Lib.hid hd12; have HG12 := Lib.hid hg12; have hfr := hd12.files; rw [HVF.out] at hfr; have HFR := Lib.hid hfr; clear y0 y2 y3 y4 y5 y6 y7 hm12 hg12 hd12 hfr)
                  | (at_builtin; refine wpList_append_lies _ rfl (.tmp 103) (.tmp 108) 56 rfl B3 60 i0_ _ 1 8 Try.underlying56 HZ.out HZ0.out HZ1.out HZ2.out rfl (by decide) (.slice fA Lq.fs.length fcap) Lq.fs.length (ptrs Lq.fs) rfl ((HFR.out.alloc _).alloc _) ⟨w12.heap.size + 1, 0, none⟩ 1 1 [.pointer (some ⟨w12.heap.size, 0, none⟩)] rfl rfl (World.news_of_block (cs := #[.pointer (some ⟨w12.heap.size, 0, none⟩)]) (t := 60) (fr := (0, 0)) (two_newS w12 sx _ _)) (by simp [Value.oneCell']) (by omega) (by have := HQL.out; unfold maxLen; omega) (by have := HQL.out; omega) (by have h1 := HD12.out.geN.1; have h2 := World.ownsMap.lt HD12.out.names; simp; omega) (w12.heap.size + 2) (by simp) ?_; intro gg gcap w13 hown hgrow hat hlt; rw [← HVF.out] at hgrow hat; obtain ⟨⟨b1, f1⟩, hWent⟩ := add_mid HD12.out (by have h1 := HD12.out.geN.1; have h2 := World.ownsMap.lt HD12.out.names; omega) hown hgrow hat; rw [HVF.out] at b1; have HWN := Lib.hid hWent; clear hown hgrow hat hlt hWent y1 fy))
                go_roundw
                case rel =>
                  refine ⟨j + 1, ?_⟩
                  obtain ⟨Lo2, w1a, w1b, w1c⟩ := HWN.out
                  refine ⟨Lo2, by go_num, ⟨HO2.out.next hj HF3.out (by have := HFW.out; omega) ?_ ((Upto.of_grown (F := foot Lq ob) HG12.out (fun x hx => by injection hx with hx; exact .inr (.inl hx.symm))).then_same w1b) (fun x hx => (w1c x hx).imp id (fun h => Nat.le_trans HG12.out.size h))⟩⟩
                  have e : crashStep S ks K ((xs.take j).foldl (crashStep S ks K) (newD S.room)) xs[j] = { So with names := putN So.names nm (Lq.fs.length : Int), files := So.files ++ [⟨sx, sx, []⟩] } := by
                    rw [HXI.out, HSO.out]
                    unfold crashStep
                    rw [HNOF.out, HD2.out.len]
                    have h1 := HMO.out
                    have h2 := HSX.out
                    rw [h1, h2]
                  rw [e]
                  exact w1a
                case measure => simp only [intOf]; omega
            · have hje : xs.take j = xs := List.take_of_length_le (by omega)
              have hd := HR.out.d
              rw [hje] at hd
              have hfill : xs.foldl (crashStep S ks K) (newD S.room) = crashFill S dir ks := by unfold crashFill; rw [HK.out, HXS.out]
              rw [hfill] at hd
              obtain ⟨d0, d1, d2, d3, d4, d5, d6, d7, f⟩ := hd.cells
              have HD := Lib.hid hd
              have HCWx := Lib.hid HR.out.cw
              clear d0 d1 d3 d4 d5 d6 d7 hfill hje hd HR
              go_wp2_with (go_at_call 40; refine (clone_calls HD.out.names).mono ?_; rintro e w2b ⟨rfl, hmz, hbz⟩; have hz := HD.out.below hbz; obtain ⟨z0, z1, z2, z3, z4, z5, z6, z7, fz⟩ := hz.cells; clear z0 z1 z2 z4 z5 z6 z7 f; have HMZ := Lib.hid hmz; have HZ := Lib.hid hz; have HBZ := Lib.hid hbz; clear hmz hz hbz)
              go_ret
              have hlt2 := World.ownsMap.lt HD.out.names
              have hs2 := HCWx.out.below.size
              have hB3 := HF3.out
              have hB4 := HFW.out
              have hgeN := HD.out.geN.1
              have h3 := (HZ.out.setBase HMZ.out (by have h5 := HD.out.geN.1; omega) (by omega)).weaken (B' := w.heap.size) (by omega)
              exact ⟨ob, _, rfl, h3, (HCWx.out.below.trans (HBZ.out.mono (by omega))).setCell (p := ⟨ob, 3, none⟩) (by have := HD.out.ge; show w.heap.size ≤ ob; omega) _⟩
        · intro s cc w6 cnt1 hlx hsz hget hrg1 hlt1 hg1 hs1 hen
          have hcw : CW w B b L S w.heap.size #[.int .i64 dir, .slice A ks.length c] w6 := HR.out.2.1.grown hg1 (by have := HFW.out; omega) (by have := HFW.out; omega)
          have hmi : MapI w6 fm l := HR.out.2.2.1.same (hg1.block fm HR.out.2.2.1.lt (fun e => by injection e with e; omega))
          obtain ⟨hc0, hc1⟩ := HIDX.out (s, cc) (getN_mem2 hget)
          have hSf := HS.out.files
          have HWF := Lib.hid (wf_of (x := cc) (by simp only at hc0; omega) (by simp only at hc1; omega))
          have HFS := Lib.hid (fill_step HDK.out HVD.out HR.out.2.2.2.1 hget hlx)
          have HSZ := Lib.hid hsz
          have HLE := Lib.hid (show l.length < maxLen by have h1 := HR.out.2.2.2.2; have h2 := HKL.out; unfold maxLen; omega)
          have HRG := Lib.hid hrg1
          have HCW := Lib.hid hcw
          have HMI := Lib.hid hmi
          have HLT := Lib.hid hlt1
          clear hcw hmi hc0 hc1 hSf hlx hsz hget hrg1 hlt1 hg1 hs1
          go_wp2_with (first
            | (at_mapUpdate; refine wp_putI _ HMI.out HSZ.out HLE.out HWF.out rfl _ _ _ rfl rfl rfl rfl ?_; intro w7 hm7 hg7; have HM7 := Lib.hid hm7; have HG7 := Lib.hid hg7; clear hm7 hg7; go_frame)
            | go_in)
          have hr7 := HRG.out.kept HG7.out (fun e => by injection e with e; have := HFW.out; omega) (fun e => by injection e with e; omega)
          have HR7 := Lib.hid hr7
          clear hr7
          go_roundw
          case rel =>
            refine ⟨_, cnt1, _, ⟨HR7.out, HCW.out.grown HG7.out (by have := HFW.out; omega) (by have := HFW.out; omega), HM7.out, HFS.out, ?_⟩⟩
            have h1 := HR.out.2.2.2.2
            have h2 := length_putI l cc s
            have h3 := HLT.out
            omega
          case measure => rw [HR7.out.left_eq, HR.out.1.left_eq]; exact HLT.out
end Go.Proofs.Ytolbicncdookmaa.XDsk
