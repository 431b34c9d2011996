/- Several things held at once: disks and rows that lie apart; what an operation of one of them leaves. Conditions: each disk is right, and not too large. -/
import Derived.Test.YtolbicncdookmaaDskShown

namespace Go.Proofs.Ytolbicncdookmaa.XDsk
open Go Go.RowKit Go.Maps Go.Sort Go.Shelf Go.Proofs.YtolbicncdookmaaW.PrintWords Go.Proofs.YtolbicncdookmaaW.PrintLast Go.Proofs.YtolbicncdookmaaW.PrintMore Go.Proofs.Ytolbicncdookmaa.Num
set_option linter.unusedVariables false
set_option linter.unusedSimpArgs false
/-- A thing in memory, by the blocks where it lies. -/
structure Thing where
  R : (Nat → Prop) → World → Prop
  same : ∀ {F : Nat → Prop} {w w' : World}, R F w → (∀ k, F k → w'.heap[k]? = w.heap[k]?) → R F w'
  lt : ∀ {F : Nat → Prop} {w : World} {k : Nat}, R F w → F k → k < w.heap.size
def dsk (B b : Nat) (S : PD) : Thing where
  R := fun F w => ∃ L, F = foot L b ∧ DskL B w L b S
  same := fun {F w w'} h hs => by obtain ⟨L, rfl, hd⟩ := h; exact ⟨L, rfl, hd.same hs⟩
  lt := fun {F w k} h hk => by obtain ⟨L, rfl, hd⟩ := h; exact (hd.foot_lt hk).2
def blkT (g : Nat) (cs : Array Value) (t : TypeId) : Thing where
  R := fun F w => F = (fun k => k = g) ∧ w.heap[g]? = some (.cells cs t (0, 0))
  same := fun {F w w'} h hs => by obtain ⟨rfl, hd⟩ := h; exact ⟨rfl, (hs g rfl).trans hd⟩
  lt := fun {F w k} h hk => by obtain ⟨rfl, hd⟩ := h; cases hk; exact blk_lt hd
def Lot (w0 : World) (Ts : List Thing) (W : World) : Prop :=
  Below w0.heap.size w0 W ∧ ∃ Fs : Nat → Nat → Prop, (∀ i j k, i < Ts.length → j < Ts.length → i ≠ j → Fs i k → ¬ Fs j k) ∧ ∀ (i : Nat) (h : i < Ts.length), Ts[i].R (Fs i) W
variable {w0 W W' : World} {b c i : Nat} {S S' : PD} {name s dst : ByteArray} {n : Int} {Ts : List Thing}
theorem Lot.low (h : Lot w0 Ts W) : Below w0.heap.size w0 W := h.1
theorem Lot.start (hw : Below w0.heap.size w0 W) : Lot w0 [] W := ⟨hw, fun _ _ => False, fun _ _ _ h => by simp at h, fun i h => by simp at h⟩
theorem Lot.below (h : Lot w0 Ts W) (hb : Below W.heap.size W W') : Lot w0 Ts W' := by
  obtain ⟨hw, Fs, hd, hR⟩ := h
  exact ⟨below_step hw hb, Fs, hd, fun i hi => Ts[i].same (hR i hi) (fun k hk => hb.block k (Ts[i].lt (hR i hi) hk))⟩
theorem Lot.drew (h : Lot w0 Ts W) : Lot w0 Ts W.drew := h.below (below_drew (Below.refl _ _))
theorem Lot.alloc0 (h : Lot w0 Ts W) (o : Obj) : Lot w0 Ts (W.alloc o) := h.below (below_alloc (Below.refl _ _) o)
/-- A thing more, made of new blocks. -/
theorem Lot.more (h : Lot w0 Ts W) (hb : Below W.heap.size W W') (T : Thing) {F : Nat → Prop} (hT : T.R F W') (hF : ∀ k, F k → W.heap.size ≤ k) : Lot w0 (Ts ++ [T]) W' := by
  have h2 := h.below hb
  obtain ⟨hw, Fs, hd, hR⟩ := h
  have hlen : (Ts ++ [T]).length = Ts.length + 1 := by simp
  refine ⟨h2.1, fun i => if i < Ts.length then Fs i else F, fun i j k hi hj hij hk hk2 => ?_, fun i hi => ?_⟩
  · by_cases e1 : i < Ts.length
    · by_cases e2 : j < Ts.length
      · simp only [if_pos e1] at hk; simp only [if_pos e2] at hk2
        exact hd i j k e1 e2 hij hk hk2
      · simp only [if_pos e1] at hk; simp only [if_neg e2] at hk2
        have := hF k hk2; have := Ts[i].lt (hR i e1) hk; omega
    · by_cases e2 : j < Ts.length
      · simp only [if_neg e1] at hk; simp only [if_pos e2] at hk2
        have := hF k hk; have := Ts[j].lt (hR j e2) hk2; omega
      · omega
  · by_cases e1 : i < Ts.length
    · rw [List.getElem_append_left e1]
      simp only [if_pos e1]
      exact Ts[i].same (hR i e1) (fun k hk => hb.block k (Ts[i].lt (hR i e1) hk))
    · have e2 : i = Ts.length := by omega
      subst e2
      simp only [if_neg e1]
      rw [List.getElem_append_right (Nat.le_refl _)]
      simpa using hT
theorem Lot.alloc (h : Lot w0 Ts W) (cs : Array Value) (t : TypeId) : Lot w0 (Ts ++ [blkT W.heap.size cs t]) (W.alloc (.cells cs t)) :=
  h.more (below_alloc (Below.refl _ _) _) _ (F := fun k => k = W.heap.size) ⟨rfl, blk_new W _⟩ (fun k hk => by omega)
/-- A thing turns. -/
theorem Lot.turn (h : Lot w0 Ts W) (hi : i < Ts.length) {T : Thing} {F : Nat → Prop} (hG : ∀ G, Ts[i].R G W → (∀ k, G k → w0.heap.size ≤ k) ∧ T.R F W' ∧ Upto G W W' ∧ ∀ k, F k → G k ∨ W.heap.size ≤ k) : Lot w0 (Ts.set i T) W' := by
  obtain ⟨hw, Fs, hd, hR⟩ := h
  obtain ⟨hge, hT, hu, hn⟩ := hG _ (hR i hi)
  refine ⟨hw.trans (hu.below hge hw.size), fun j => if j = i then F else Fs j, fun j l k hj hl hjl hk hk2 => ?_, fun j hj => ?_⟩
  · rw [List.length_set] at hj hl
    by_cases e1 : j = i
    · subst e1
      simp only [if_true] at hk
      simp only [if_neg (Ne.symm hjl)] at hk2
      rcases hn k hk with e | e
      · exact hd j l k hj hl hjl e hk2
      · have := Ts[l].lt (hR l hl) hk2; omega
    · simp only [if_neg e1] at hk
      by_cases e2 : l = i
      · subst e2
        simp only [if_true] at hk2
        rcases hn k hk2 with e | e
        · exact hd j l k hj hl hjl hk e
        · have := Ts[j].lt (hR j hj) hk; omega
      · simp only [if_neg e2] at hk2
        exact hd j l k hj hl hjl hk hk2
  · rw [List.length_set] at hj
    by_cases e1 : j = i
    · subst e1
      simp only [if_true]
      simpa using hT
    · simp only [if_neg e1]
      rw [List.getElem_set_ne (Ne.symm e1)]
      exact Ts[j].same (hR j hj) (fun k hk => hu.block k (Ts[j].lt (hR j hj) hk) (fun hk2 => hd j i k hj hi e1 hk hk2))
theorem Lot.open (h : Lot w0 Ts W) (hi : Ts[i]? = some (dsk w0.heap.size b S)) : ∃ L, DskL w0.heap.size W L b S ∧ ∀ S' W', Went w0.heap.size W L b S' W' → Lot w0 (Ts.set i (dsk w0.heap.size b S')) W' := by
  have h' := h
  obtain ⟨hw, Fs, hd, hR⟩ := h
  obtain ⟨hl, e⟩ := List.getElem?_eq_some_iff.1 hi
  have hRi := hR i hl
  rw [e] at hRi
  obtain ⟨L, hF, hD⟩ := hRi
  refine ⟨L, hD, fun S' W' hg => ?_⟩
  obtain ⟨L2, hD2, hu, hn⟩ := hg
  refine ⟨hw.trans (hu.below (fun k hk => (hD.foot_lt hk).1) hw.size), fun j => if j = i then foot L2 b else Fs j, fun j l k hj hl' hjl hk hk2 => ?_, fun j hj => ?_⟩
  · rw [List.length_set] at hj hl'
    by_cases e1 : j = i
    · subst e1
      simp only [if_true] at hk
      simp only [if_neg (Ne.symm hjl)] at hk2
      rcases hn k hk with e | e
      · exact hd j l k hj hl' hjl (by rw [hF]; exact e) hk2
      · have := Ts[l].lt (hR l hl') hk2; omega
    · simp only [if_neg e1] at hk
      by_cases e2 : l = i
      · subst e2
        simp only [if_true] at hk2
        rcases hn k hk2 with e | e
        · exact hd j l k hj hl' hjl hk (by rw [hF]; exact e)
        · have := Ts[j].lt (hR j hj) hk; omega
      · simp only [if_neg e2] at hk2
        exact hd j l k hj hl' hjl hk hk2
  · rw [List.length_set] at hj
    by_cases e1 : j = i
    · subst e1
      simp only [if_true]
      rw [List.getElem_set_self]
      exact ⟨L2, rfl, hD2⟩
    · simp only [if_neg e1]
      rw [List.getElem_set_ne (Ne.symm e1)]
      exact Ts[j].same (hR j hj) (fun k hk => hu.block k (Ts[j].lt (hR j hj) hk) (fun hk2 => hd j i k hj hl e1 hk (by rw [hF]; exact hk2)))
theorem Lot.blk {g : Nat} {cs : Array Value} {t : TypeId} (h : Lot w0 Ts W) (hi : Ts[i]? = some (blkT g cs t)) : W.heap[g]? = some (.cells cs t (0, 0)) := by
  obtain ⟨hw, Fs, hd, hR⟩ := h
  obtain ⟨hl, e⟩ := List.getElem?_eq_some_iff.1 hi
  have hRi := hR i hl
  rw [e] at hRi
  exact hRi.2
theorem Lot.has (h : Lot w0 Ts W) (hi : Ts[i]? = some (dsk w0.heap.size b S)) : Has w0 b S W := by
  obtain ⟨L, hd, _⟩ := h.open hi
  exact ⟨⟨L, hd⟩, h.1⟩
theorem Lot.fresh (h : Lot w0 Ts W) {e : Ending} (hn : NewAt W S e W') : ∃ b, e = .returned (.pointer (some ⟨b, 0, none⟩)) ∧ Lot w0 (Ts ++ [dsk w0.heap.size b S]) W' := by
  obtain ⟨b, L, rfl, hD, hb⟩ := hn
  exact ⟨b, rfl, h.more hb _ (F := foot L b) ⟨L, rfl, hD.weaken h.1.size⟩ (fun k hk => (hD.foot_lt hk).1)⟩
theorem lot_new (h : Lot w0 Ts W) (room : Int) : Calls Try.prog 11 #[.int .i64 room] W fun e w' => ∃ b, e = .returned (.pointer (some ⟨b, 0, none⟩)) ∧ Lot w0 (Ts ++ [dsk w0.heap.size b (newD room)]) w' :=
  (new_calls W room).mono (fun e w' hn => h.fresh hn)
theorem lot_create (h : Lot w0 Ts W) (hi : Ts[i]? = some (dsk w0.heap.size b S)) (g : Good c S) (hc : c ≤ 100000) (hn : name.size ≤ 1000000) :
    Calls Try.prog 12 #[.pointer (some ⟨b, 0, none⟩), .string name] W fun e w' => e = .returned (.int .i64 (createE S name)) ∧ Lot w0 (Ts.set i (dsk w0.heap.size b (createS S name))) w' := by
  obtain ⟨L, hd, hk⟩ := h.open hi
  refine (create_calls hd (g.lim (by omega)) hn h.1.size (g.addFile.lim (by omega))).mono ?_
  rintro e w' ⟨rfl, h2⟩
  exact ⟨rfl, hk _ _ h2⟩
theorem lot_append (h : Lot w0 Ts W) (hi : Ts[i]? = some (dsk w0.heap.size b S)) (g : Good c S) (hc : c ≤ 100000) (hn : name.size ≤ 1000000) (hs : s.size ≤ 1000000) :
    Calls Try.prog 13 #[.pointer (some ⟨b, 0, none⟩), .string name, .string s] W fun e w' => e = .returned (.int .i64 (appendE S name s)) ∧ Lot w0 (Ts.set i (dsk w0.heap.size b (appendS S name s))) w' := by
  obtain ⟨L, hd, hk⟩ := h.open hi
  refine (append_calls hd (g.lim (by omega)) hn hs (g.begin.lim (by omega)) h.1.size).mono ?_
  rintro e w' ⟨rfl, h2⟩
  exact ⟨rfl, hk _ _ h2⟩
theorem lot_cut (h : Lot w0 Ts W) (hi : Ts[i]? = some (dsk w0.heap.size b S)) (g : Good c S) (hc : c ≤ 100000) (hn : name.size ≤ 1000000) :
    Calls Try.prog 24 #[.pointer (some ⟨b, 0, none⟩), .string name, .int .i64 n] W fun e w' => e = .returned (.int .i64 (cutE S name n)) ∧ Lot w0 (Ts.set i (dsk w0.heap.size b (cutS S name n))) w' := by
  obtain ⟨L, hd, hk⟩ := h.open hi
  refine (cut_calls hd (g.lim (by omega)) hn h.1.size).mono ?_
  rintro e w' ⟨rfl, h2⟩
  exact ⟨rfl, hk _ _ h2⟩
theorem lot_sync (h : Lot w0 Ts W) (hi : Ts[i]? = some (dsk w0.heap.size b S)) (g : Good c S) (hc : c ≤ 100000) (hn : name.size ≤ 1000000) :
    Calls Try.prog 14 #[.pointer (some ⟨b, 0, none⟩), .string name] W fun e w' => e = .returned (.int .i64 (syncE S name)) ∧ Lot w0 (Ts.set i (dsk w0.heap.size b (syncS S name))) w' := by
  obtain ⟨L, hd, hk⟩ := h.open hi
  refine (sync_calls hd (g.lim (by omega)) hn (g.begin.lim (by omega))).mono ?_
  rintro e w' ⟨rfl, h2⟩
  exact ⟨rfl, hk _ _ h2⟩
theorem lot_rename (h : Lot w0 Ts W) (hi : Ts[i]? = some (dsk w0.heap.size b S)) (g : Good c S) (hc : c ≤ 100000) (hn : name.size ≤ 1000000) (hs : dst.size ≤ 1000000) :
    Calls Try.prog 18 #[.pointer (some ⟨b, 0, none⟩), .string name, .string dst] W fun e w' => e = .returned (.int .i64 (renameE S name dst)) ∧ Lot w0 (Ts.set i (dsk w0.heap.size b (renameS S name dst))) w' := by
  obtain ⟨L, hd, hk⟩ := h.open hi
  refine (rename_calls hd (g.lim (by omega)) hn hs h.1.size (g.begin.lim (by omega))).mono ?_
  rintro e w' ⟨rfl, h2⟩
  exact ⟨rfl, hk _ _ h2⟩
theorem lot_remove (h : Lot w0 Ts W) (hi : Ts[i]? = some (dsk w0.heap.size b S)) (g : Good c S) (hc : c ≤ 100000) (hn : name.size ≤ 1000000) :
    Calls Try.prog 25 #[.pointer (some ⟨b, 0, none⟩), .string name] W fun e w' => e = .returned (.int .i64 (removeE S name)) ∧ Lot w0 (Ts.set i (dsk w0.heap.size b (removeS S name))) w' := by
  obtain ⟨L, hd, hk⟩ := h.open hi
  refine (remove_calls hd (g.lim (by omega)) hn h.1.size (g.begin.lim (by omega))).mono ?_
  rintro e w' ⟨rfl, h2⟩
  exact ⟨rfl, hk _ _ h2⟩
theorem lot_syncDir (h : Lot w0 Ts W) (hi : Ts[i]? = some (dsk w0.heap.size b S)) (g : Good c S) (hc : c ≤ 100000) :
    Calls Try.prog 15 #[.pointer (some ⟨b, 0, none⟩)] W fun e w' => e = .returned (.int .i64 (beginE S)) ∧ Lot w0 (Ts.set i (dsk w0.heap.size b (syncDirS S))) w' := by
  obtain ⟨L, hd, hk⟩ := h.open hi
  refine (syncDir_calls hd (g.lim (by omega)) h.1.size).mono ?_
  rintro e w' ⟨rfl, h2⟩
  exact ⟨rfl, hk _ _ h2⟩
theorem lot_fail (h : Lot w0 Ts W) (hi : Ts[i]? = some (dsk w0.heap.size b S)) (n : Int) :
    Calls Try.prog 21 #[.pointer (some ⟨b, 0, none⟩), .int .i64 n] W fun e w' => e = .returned (.tuple #[]) ∧ Lot w0 (Ts.set i (dsk w0.heap.size b (failS S n))) w' := by
  obtain ⟨L, hd, hk⟩ := h.open hi
  refine (fail_calls hd n).mono ?_
  rintro e w' ⟨rfl, h2, hu⟩
  exact ⟨rfl, hk _ _ (Went.stay h2 hu)⟩
theorem lot_stop (h : Lot w0 Ts W) (hi : Ts[i]? = some (dsk w0.heap.size b S)) (n : Int) :
    Calls Try.prog 32 #[.pointer (some ⟨b, 0, none⟩), .int .i64 n] W fun e w' => e = .returned (.tuple #[]) ∧ Lot w0 (Ts.set i (dsk w0.heap.size b (stopS S n))) w' := by
  obtain ⟨L, hd, hk⟩ := h.open hi
  refine (stop_calls hd n).mono ?_
  rintro e w' ⟨rfl, h2, hu⟩
  exact ⟨rfl, hk _ _ (Went.stay h2 hu)⟩
theorem lot_read (h : Lot w0 Ts W) (hi : Ts[i]? = some (dsk w0.heap.size b S)) (g : Good c S) (hc : c ≤ 100000) (hn : name.size ≤ 1000000) :
    Calls Try.prog 17 #[.pointer (some ⟨b, 0, none⟩), .string name] W fun e w' => e = .returned (.tuple #[.string (readV S name), .int .i64 (findE S name)]) ∧ W = w' := has_read (h.has hi) g hc hn
theorem lot_used (h : Lot w0 Ts W) (hi : Ts[i]? = some (dsk w0.heap.size b S)) (g : Good c S) (hc : c ≤ 100000) :
    Calls Try.prog 19 #[.pointer (some ⟨b, 0, none⟩)] W fun e w' => e = .returned (.int .i64 (usedD S)) ∧ Lot w0 Ts w' :=
  (has_used (h.has hi) g hc).mono (fun e w' ⟨he, hb⟩ => ⟨he, h.below hb⟩)
theorem lot_ops (h : Lot w0 Ts W) (hi : Ts[i]? = some (dsk w0.heap.size b S)) :
    Calls Try.prog 28 #[.pointer (some ⟨b, 0, none⟩)] W fun e w' => e = .returned (.int .i64 S.ops) ∧ W = w' := has_ops (h.has hi)
theorem lot_crash {A : Option Addr} {k : Nat} {dir : Int} {ks : List Int} (h : Lot w0 Ts W) (hi : Ts[i]? = some (dsk w0.heap.size b S)) (g : Good c S) (hc : c ≤ 100000) (hA : Kd.C (Kd.int .i64) W A ks.length ks) (hk : ks.length ≤ k) (hw : ∀ x ∈ ks, (Lit.int .i64 x).wf = true) :
    Calls Try.prog 16 #[.pointer (some ⟨b, 0, none⟩), .agg #[.int .i64 dir, .slice A ks.length k]] W fun e w' => ∃ b2, e = .returned (.pointer (some ⟨b2, 0, none⟩)) ∧ Lot w0 (Ts ++ [dsk w0.heap.size b2 (crashD S dir ks)]) w' := by
  obtain ⟨L, hd, _⟩ := h.open hi
  exact (crash_calls hd h.1.size (g.crash (by omega) dir) hA hk hw).mono (fun e w' hn => h.fresh hn)
end Go.Proofs.Ytolbicncdookmaa.XDsk
