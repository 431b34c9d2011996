/- A disk of the call's own: each operation tells what the plain disk tells, and leaves what that leaves. Conditions: the disk is right, and not too large. -/
import Derived.Test.YtolbicncdookmaaDskGood

namespace Go.Proofs.Ytolbicncdookmaa.XDsk
open Go Go.RowKit Go.Maps Go.Sort Go.Shelf Go.Proofs.YtolbicncdookmaaW.PrintWords Go.Proofs.YtolbicncdookmaaW.PrintLast Go.Proofs.YtolbicncdookmaaW.PrintMore Go.Proofs.Ytolbicncdookmaa.Num
set_option linter.unusedVariables false
set_option linter.unusedSimpArgs false
structure Has (w0 : World) (b : Nat) (S : PD) (W : World) : Prop where
  d : ∃ L, DskL w0.heap.size W L b S
  below : Below w0.heap.size w0 W
variable {w0 W W' : World} {b c : Nat} {S S' : PD} {name s dst : ByteArray} {n : Int}
theorem Has.step (h : Has w0 b S W) (hb : Below W.heap.size W W') : Has w0 b S W' := by
  obtain ⟨⟨L, hd⟩, hw⟩ := h
  exact ⟨⟨L, hd.below hb⟩, below_step hw hb⟩
theorem Has.alloc (h : Has w0 b S W) (o : Obj) : Has w0 b S (W.alloc o) := h.step (below_alloc (Below.refl _ _) o)
theorem Has.drew (h : Has w0 b S W) : Has w0 b S W.drew := h.step (below_drew (Below.refl _ _))
theorem Has.drewN (h : Has w0 b S W) (n : Nat) : Has w0 b S (W.drewN n) := h.step (pw_below_drewN (Below.refl _ _) n)
theorem Has.went {L : Lay} (hw : Below w0.heap.size w0 W) (h : DskL w0.heap.size W L b S) (hg : Went w0.heap.size W L b S' W') : Has w0 b S' W' := by
  obtain ⟨L2, hd, hu, _⟩ := hg
  exact ⟨⟨L2, hd⟩, hw.trans (hu.below (fun k hk => (h.foot_lt hk).1) hw.size)⟩
theorem Has.one {L : Lay} (hw : Below w0.heap.size w0 W) (h : DskL w0.heap.size W L b S) (hd : DskL w0.heap.size W' L b S') (hu : Upto (fun k => k = b) W W') : Has w0 b S' W' :=
  ⟨⟨L, hd⟩, hw.trans (hu.below (fun k hk => by rw [hk]; exact h.ge) hw.size)⟩
theorem Good.addFile {c : Nat} {S : PD} (h : Good c S) : Good (c + 2) { beginS S with files := S.files ++ [⟨ByteArray.empty, ByteArray.empty, []⟩] } := by
  have hl0 : S.files.length ≤ c := h.nfile
  have hb2 := h.begin.mono (show c + 1 ≤ c + 2 by omega)
  refine ⟨hb2.room, hb2.ops, hb2.fail, hb2.left, by simp; omega, hb2.nmove, hb2.mv, fun f hf => ?_, fun n hn => ?_, hb2.cur⟩
  · rcases List.mem_append.1 hf with hf | hf
    · exact hb2.files f (by rw [(begin_same S).2.1]; exact hf)
    · rw [List.mem_singleton] at hf
      subst hf
      exact FOk.new (by show ByteArray.empty.size ≤ c + 2; simp)
  · have := (hb2.snaps n hn).mono (Nat.le_refl (c + 2)) (nf' := (S.files ++ [(⟨ByteArray.empty, ByteArray.empty, []⟩ : PF)]).length) (by rw [(begin_same S).2.1]; simp)
    exact this
theorem has_create (h : Has w0 b S W) (g : Good c S) (hc : c ≤ 100000) (hn : name.size ≤ 1000000) :
    Calls Try.prog 12 #[.pointer (some ⟨b, 0, none⟩), .string name] W fun e w' => e = .returned (.int .i64 (createE S name)) ∧ Has w0 b (createS S name) w' := by
  obtain ⟨⟨L, hd⟩, hw⟩ := h
  refine (create_calls hd (g.lim (by omega)) hn hw.size (g.addFile.lim (by omega))).mono ?_
  rintro e w' ⟨rfl, h2⟩
  exact ⟨rfl, Has.went hw hd h2⟩
theorem has_append (h : Has w0 b S W) (g : Good c S) (hc : c ≤ 100000) (hn : name.size ≤ 1000000) (hs : s.size ≤ 1000000) :
    Calls Try.prog 13 #[.pointer (some ⟨b, 0, none⟩), .string name, .string s] W fun e w' => e = .returned (.int .i64 (appendE S name s)) ∧ Has w0 b (appendS S name s) w' := by
  obtain ⟨⟨L, hd⟩, hw⟩ := h
  refine (append_calls hd (g.lim (by omega)) hn hs (g.begin.lim (by omega)) hw.size).mono ?_
  rintro e w' ⟨rfl, h2⟩
  exact ⟨rfl, Has.went hw hd h2⟩
theorem has_cut (h : Has w0 b S W) (g : Good c S) (hc : c ≤ 100000) (hn : name.size ≤ 1000000) :
    Calls Try.prog 24 #[.pointer (some ⟨b, 0, none⟩), .string name, .int .i64 n] W fun e w' => e = .returned (.int .i64 (cutE S name n)) ∧ Has w0 b (cutS S name n) w' := by
  obtain ⟨⟨L, hd⟩, hw⟩ := h
  refine (cut_calls hd (g.lim (by omega)) hn hw.size).mono ?_
  rintro e w' ⟨rfl, h2⟩
  exact ⟨rfl, Has.went hw hd h2⟩
theorem has_sync (h : Has w0 b S W) (g : Good c S) (hc : c ≤ 100000) (hn : name.size ≤ 1000000) :
    Calls Try.prog 14 #[.pointer (some ⟨b, 0, none⟩), .string name] W fun e w' => e = .returned (.int .i64 (syncE S name)) ∧ Has w0 b (syncS S name) w' := by
  obtain ⟨⟨L, hd⟩, hw⟩ := h
  refine (sync_calls hd (g.lim (by omega)) hn (g.begin.lim (by omega))).mono ?_
  rintro e w' ⟨rfl, h2⟩
  exact ⟨rfl, Has.went hw hd h2⟩
theorem has_rename (h : Has w0 b S W) (g : Good c S) (hc : c ≤ 100000) (hn : name.size ≤ 1000000) (hs : dst.size ≤ 1000000) :
    Calls Try.prog 18 #[.pointer (some ⟨b, 0, none⟩), .string name, .string dst] W fun e w' => e = .returned (.int .i64 (renameE S name dst)) ∧ Has w0 b (renameS S name dst) w' := by
  obtain ⟨⟨L, hd⟩, hw⟩ := h
  refine (rename_calls hd (g.lim (by omega)) hn hs hw.size (g.begin.lim (by omega))).mono ?_
  rintro e w' ⟨rfl, h2⟩
  exact ⟨rfl, Has.went hw hd h2⟩
theorem has_remove (h : Has w0 b S W) (g : Good c S) (hc : c ≤ 100000) (hn : name.size ≤ 1000000) :
    Calls Try.prog 25 #[.pointer (some ⟨b, 0, none⟩), .string name] W fun e w' => e = .returned (.int .i64 (removeE S name)) ∧ Has w0 b (removeS S name) w' := by
  obtain ⟨⟨L, hd⟩, hw⟩ := h
  refine (remove_calls hd (g.lim (by omega)) hn hw.size (g.begin.lim (by omega))).mono ?_
  rintro e w' ⟨rfl, h2⟩
  exact ⟨rfl, Has.went hw hd h2⟩
theorem has_syncDir (h : Has w0 b S W) (g : Good c S) (hc : c ≤ 100000) :
    Calls Try.prog 15 #[.pointer (some ⟨b, 0, none⟩)] W fun e w' => e = .returned (.int .i64 (beginE S)) ∧ Has w0 b (syncDirS S) w' := by
  obtain ⟨⟨L, hd⟩, hw⟩ := h
  refine (syncDir_calls hd (g.lim (by omega)) hw.size).mono ?_
  rintro e w' ⟨rfl, h2⟩
  exact ⟨rfl, Has.went hw hd h2⟩
theorem has_fail (h : Has w0 b S W) (n : Int) :
    Calls Try.prog 21 #[.pointer (some ⟨b, 0, none⟩), .int .i64 n] W fun e w' => e = .returned (.tuple #[]) ∧ Has w0 b (failS S n) w' := by
  obtain ⟨⟨L, hd⟩, hw⟩ := h
  refine (fail_calls hd n).mono ?_
  rintro e w' ⟨rfl, h2, hu⟩
  exact ⟨rfl, Has.one hw hd h2 hu⟩
theorem has_stop (h : Has w0 b S W) (n : Int) :
    Calls Try.prog 32 #[.pointer (some ⟨b, 0, none⟩), .int .i64 n] W fun e w' => e = .returned (.tuple #[]) ∧ Has w0 b (stopS S n) w' := by
  obtain ⟨⟨L, hd⟩, hw⟩ := h
  refine (stop_calls hd n).mono ?_
  rintro e w' ⟨rfl, h2, hu⟩
  exact ⟨rfl, Has.one hw hd h2 hu⟩
theorem has_read (h : Has w0 b S W) (g : Good c S) (hc : c ≤ 100000) (hn : name.size ≤ 1000000) :
    Calls Try.prog 17 #[.pointer (some ⟨b, 0, none⟩), .string name] W fun e w' => e = .returned (.tuple #[.string (readV S name), .int .i64 (findE S name)]) ∧ W = w' := by
  obtain ⟨⟨L, hd⟩, hw⟩ := h
  exact read_calls hd (g.lim (by omega)) hn
theorem has_list (h : Has w0 b S W) (g : Good c S) (hc : c ≤ 100000) :
    Calls Try.prog 27 #[.pointer (some ⟨b, 0, none⟩)] W (GivesStrs W (keysN S.names)) := by
  obtain ⟨⟨L, hd⟩, hw⟩ := h
  exact list_calls hd (g.lim (by omega))
theorem has_used (h : Has w0 b S W) (g : Good c S) (hc : c ≤ 100000) :
    Calls Try.prog 19 #[.pointer (some ⟨b, 0, none⟩)] W fun e w' => e = .returned (.int .i64 (usedD S)) ∧ Below W.heap.size W w' := by
  obtain ⟨⟨L, hd⟩, hw⟩ := h
  exact used_calls hd (g.lim (by omega))
theorem has_ops (h : Has w0 b S W) :
    Calls Try.prog 28 #[.pointer (some ⟨b, 0, none⟩)] W fun e w' => e = .returned (.int .i64 S.ops) ∧ W = w' := by
  obtain ⟨⟨L, hd⟩, hw⟩ := h
  exact ops_calls hd
def NewHas (w0 W : World) (S : PD) (e : Ending) (w' : World) : Prop := ∃ b, e = .returned (.pointer (some ⟨b, 0, none⟩)) ∧ Has w0 b S w' ∧ Below W.heap.size W w'
theorem NewHas.of {e : Ending} (hw : Below w0.heap.size w0 W) (h : NewAt W S e W') : NewHas w0 W S e W' := by
  obtain ⟨b, L, he, hd, hb⟩ := h
  exact ⟨b, he, ⟨⟨L, hd.weaken hw.size⟩, hw.trans (hb.mono hw.size)⟩, hb⟩
theorem has_new (hw : Below w0.heap.size w0 W) (room : Int) : Calls Try.prog 11 #[.int .i64 room] W (NewHas w0 W (newD room)) := (new_calls W room).mono (fun e w' h => NewHas.of hw h)
theorem has_crash {A : Option Addr} {k : Nat} {dir : Int} {ks : List Int} (h : Has w0 b S W) (g : Good c S) (hc : c ≤ 100000) (hA : Kd.C (Kd.int .i64) W A ks.length ks) (hk : ks.length ≤ k) (hw : ∀ x ∈ ks, (Lit.int .i64 x).wf = true) :
    Calls Try.prog 16 #[.pointer (some ⟨b, 0, none⟩), .agg #[.int .i64 dir, .slice A ks.length k]] W (NewHas w0 W (crashD S dir ks)) := by
  obtain ⟨⟨L, hd⟩, hb⟩ := h
  exact (crash_calls hd hb.size (g.crash (by omega) dir) hA hk hw).mono (fun e w' h => NewHas.of hb h)
end Go.Proofs.Ytolbicncdookmaa.XDsk
