/- The disk's Rename and Remove. Conditions: texts' lengths, counts below a million. -/
import Derived.Test.YtolbicncdookmaaDskCreate

namespace Go.Proofs.Ytolbicncdookmaa.XDsk
open Go Go.RowKit Go.Maps Go.Proofs.YtolbicncdookmaaW.PrintWords Go.Proofs.YtolbicncdookmaaW.PrintLast Go.Proofs.YtolbicncdookmaaW.PrintMore Go.Proofs.Ytolbicncdookmaa.Num
set_option linter.unusedVariables false
set_option linter.unusedSimpArgs false
variable {B b : Nat} {w w1 w2 : World} {L L1 : Lay} {S S1 : PD} {name other : ByteArray} {i : Int}
theorem findE_or (S : PD) (name : ByteArray) : findE S name = 11 ∨ findE S name = 5 ∨ findE S name = 0 := by
  rcases findE_cases S name with ⟨h, _⟩ | ⟨h, _⟩ | ⟨h, _⟩
  · exact .inl h
  · exact .inr (.inl h)
  · exact .inr (.inr h)
theorem Upto.foot (h : Upto (fun k => k = b) w w1) (L : Lay) : Upto (foot L b) w w1 := h.mono (fun k hk => .inl hk)
set_option maxHeartbeats 1000000 in
theorem remove_no (h : DskL B w L b S) (hS : Lim S) (hs : name.size ≤ 1000000) (hne : findE S name ≠ 0) :
    Calls Try.prog 25 #[.pointer (some ⟨b, 0, none⟩), .string name] w fun e w' => e = .returned (.int .i64 (findE S name)) ∧ Went B w L b (beginS S) w' := by
  have HF := Lib.hid (find_calls (name := name) h hS (by unfold maxLen; omega))
  obtain ⟨p, hp⟩ : ∃ p, findP L S name = p := ⟨_, rfl⟩
  rw [hp] at HF
  clear h hS hs hp
  rcases findE_or S name with e | e | e
  · rw [e] at HF ⊢
    clear e hne
    go_enter Try.func25, Try.ntmps25
    go_wp2_with (go_at_call 35; refine HF.out.mono ?_; rintro e w1 ⟨rfl, h1, hu1⟩)
    go_ret
    exact ⟨rfl, Went.stay h1 hu1⟩
  · rw [e] at HF ⊢
    clear e hne
    go_enter Try.func25, Try.ntmps25
    go_wp2_with (go_at_call 35; refine HF.out.mono ?_; rintro e w1 ⟨rfl, h1, hu1⟩)
    go_ret
    exact ⟨rfl, Went.stay h1 hu1⟩
  · exact absurd e hne
theorem moved_any (pm : PM) (hu : Upto (fun k => k = b) w w1) (h : DskL B w1 L b S) (hS : Lim S) (hp : PMok pm) (hB : B ≤ w.heap.size) :
    Calls Try.prog 37 #[.pointer (some ⟨b, 0, none⟩), .agg #[.string pm.src, .string pm.dst, .int .i64 pm.file]] w1 fun e w' => e = .returned (.tuple #[]) ∧ Went B w L b (movedS S pm) w' := by
  have hm := moved_calls pm h hS hp (by have := hu.size; omega)
  refine Calls.mono (show Calls Try.prog 37 #[.pointer (some ⟨b, 0, none⟩), .agg #[.string pm.src, .string pm.dst, .int .i64 pm.file]] _ _ from hm) ?_
  rintro e w' ⟨rfl, hW⟩
  exact ⟨rfl, hW.after (hu.foot L) (fun k hk => .inl hk)⟩
set_option maxHeartbeats 1000000 in
theorem remove_ok (h : DskL B w L b S) (hS : Lim S) (hs : name.size ≤ 1000000) (h0 : findE S name = 0) (hB : B ≤ w.heap.size) (hS1 : Lim (beginS S)) :
    Calls Try.prog 25 #[.pointer (some ⟨b, 0, none⟩), .string name] w fun e w' => e = .returned (.int .i64 0) ∧ Went B w L b (movedS (beginS S) ⟨name, ByteArray.empty, 0⟩) w' := by
  have HF := Lib.hid (find_calls (name := name) h hS (by unfold maxLen; omega))
  obtain ⟨p, hp⟩ : ∃ p, findP L S name = p := ⟨_, rfl⟩
  rw [hp, h0] at HF
  have HM := Lib.hid (fun (w1 : World) (hu : Upto (fun k => k = b) w w1) (h : DskL B w1 L b (beginS S)) => moved_any ⟨name, ByteArray.empty, 0⟩ hu h hS1 ⟨by show name.size ≤ maxLen; unfold maxLen; omega, by show ByteArray.empty.size ≤ maxLen; decide, by show (Lit.int .i64 0).wf = true; decide⟩ hB)
  clear h hS hs hp h0 hS1 hB
  go_enter Try.func25, Try.ntmps25
  go_wp2_with (first
    | (go_at_call 35; refine HF.out.mono ?_; rintro e w1 ⟨rfl, h1, hu1⟩)
    | (go_at_call 37; refine (HM.out _ hu1 h1).mono ?_; rintro e w4 ⟨rfl, hW⟩; have HW := Lib.hid hW; clear hW))
  go_ret
  exact ⟨rfl, HW.out⟩
theorem remove_calls (h : DskL B w L b S) (hS : Lim S) (hs : name.size ≤ 1000000) (hB : B ≤ w.heap.size) (hS1 : Lim (beginS S)) :
    Calls Try.prog 25 #[.pointer (some ⟨b, 0, none⟩), .string name] w fun e w' => e = .returned (.int .i64 (removeE S name)) ∧ Went B w L b (removeS S name) w' := by
  unfold removeE removeS
  by_cases h0 : findE S name = 0
  · rw [if_pos h0, h0]; exact remove_ok h hS hs h0 hB hS1
  · rw [if_neg h0]; exact remove_no h hS hs h0
set_option maxHeartbeats 1000000 in
theorem rename_no (h : DskL B w L b S) (hS : Lim S) (hs : name.size ≤ 1000000) (hne : findE S name ≠ 0) :
    Calls Try.prog 18 #[.pointer (some ⟨b, 0, none⟩), .string name, .string other] w fun e w' => e = .returned (.int .i64 (findE S name)) ∧ Went B w L b (beginS S) w' := by
  have HF := Lib.hid (find_calls (name := name) h hS (by unfold maxLen; omega))
  obtain ⟨p, hp⟩ : ∃ p, findP L S name = p := ⟨_, rfl⟩
  rw [hp] at HF
  clear h hS hs hp
  rcases findE_or S name with e | e | e
  · rw [e] at HF ⊢
    clear e hne
    go_enter Try.func18, Try.ntmps18
    go_wp2_with (go_at_call 35; refine HF.out.mono ?_; rintro e w1 ⟨rfl, h1, hu1⟩)
    go_ret
    exact ⟨rfl, Went.stay h1 hu1⟩
  · rw [e] at HF ⊢
    clear e hne
    go_enter Try.func18, Try.ntmps18
    go_wp2_with (go_at_call 35; refine HF.out.mono ?_; rintro e w1 ⟨rfl, h1, hu1⟩)
    go_ret
    exact ⟨rfl, Went.stay h1 hu1⟩
  · exact absurd e hne
set_option maxHeartbeats 1000000 in
theorem rename_bad (h : DskL B w L b S) (hS : Lim S) (hs : name.size ≤ 1000000) (ho : other.size ≤ 1000000) (h0 : findE S name = 0) (hn : namedB other = false) :
    Calls Try.prog 18 #[.pointer (some ⟨b, 0, none⟩), .string name, .string other] w fun e w' => e = .returned (.int .i64 3) ∧ Went B w L b (beginS S) w' := by
  have HF := Lib.hid (find_calls (name := name) h hS (by unfold maxLen; omega))
  obtain ⟨p, hp⟩ : ∃ p, findP L S name = p := ⟨_, rfl⟩
  rw [hp, h0] at HF
  have HN2 := fun w => named_calls ho w
  rw [hn] at HN2
  have HN := Lib.hid HN2
  clear h hS hs ho hp h0 hn HN2
  go_enter Try.func18, Try.ntmps18
  go_wp2_with (first
    | (go_at_call 35; refine HF.out.mono ?_; rintro e w1 ⟨rfl, h1, hu1⟩)
    | (go_at_call 36; refine (HN.out _).mono ?_; rintro e w2 ⟨rfl, nd, rfl⟩))
  go_ret
  exact ⟨rfl, Went.stay (h1.drewN nd) (hu1.drewN nd)⟩
set_option maxHeartbeats 1000000 in
theorem rename_ok (h : DskL B w L b S) (hS : Lim S) (hs : name.size ≤ 1000000) (ho : other.size ≤ 1000000) (h0 : findE S name = 0) (hn : namedB other = true) (hB : B ≤ w.heap.size) (hS1 : Lim (beginS S)) :
    Calls Try.prog 18 #[.pointer (some ⟨b, 0, none⟩), .string name, .string other] w fun e w' => e = .returned (.int .i64 0) ∧ Went B w L b (movedS (beginS S) ⟨name, other, numN S name⟩) w' := by
  have HF := Lib.hid (find_calls (name := name) h hS (by unfold maxLen; omega))
  obtain ⟨p, hp⟩ : ∃ p, findP L S name = p := ⟨_, rfl⟩
  rw [hp, h0] at HF
  have HN2 := fun w => named_calls ho w
  rw [hn] at HN2
  have HN := Lib.hid HN2
  obtain ⟨i, hi⟩ : ∃ i, getN S.names name = some i := by
    rcases findE_cases S name with ⟨e, _⟩ | ⟨e, _⟩ | ⟨_, _, hg⟩
    · rw [h0] at e; cases e
    · rw [h0] at e; cases e
    · exact hg
  have en : numN S name = i := by unfold numN; rw [hi]; rfl
  rw [en]
  obtain ⟨i0, i1, _⟩ := h.idx hS hi
  have hSf := hS.files
  have hg : getN (beginS S).names name = some i := by rw [(begin_same S).1]; exact hi
  have HG := Lib.hid hg
  have HNS := Lib.hid (show name.size ≤ maxLen by unfold maxLen; omega)
  have HM := Lib.hid (fun (w1 : World) (hu : Upto (fun k => k = b) w w1) (h : DskL B w1 L b (beginS S)) => moved_any ⟨name, other, i⟩ hu h hS1 ⟨by show name.size ≤ maxLen; unfold maxLen; omega, by show other.size ≤ maxLen; unfold maxLen; omega, wf_of (x := i) (by omega) (by omega)⟩ hB)
  clear h hS hs ho hp h0 hn HN2 hS1 hB hi en i0 i1 hSf hg
  go_enter Try.func18, Try.ntmps18
  go_wp2_with (first
    | (go_at_call 35; refine HF.out.mono ?_; rintro e w1 ⟨rfl, h1, hu1⟩)
    | (go_at_call 36; refine (HN.out _).mono ?_; rintro e w2 ⟨rfl, nd, rfl⟩; have h2 := h1.drewN nd; have hu2 := hu1.drewN nd; generalize w1.drewN nd = w2 at h2 hu2 ⊢; obtain ⟨c0, c1, c2, c3, c4, c5, c6, c7, f⟩ := h2.cells; clear c0 c1 c3 c4 c5 c6 c7 h1 hu1 f)
    | (at_lookup; refine wp_get1 _ HG.out h2.names HNS.out rfl _ _ rfl rfl rfl ?_)
    | (go_at_call 37; refine (HM.out _ hu2 h2).mono ?_; rintro e w4 ⟨rfl, hW⟩; have HW := Lib.hid hW; clear hW))
  go_ret
  exact ⟨rfl, HW.out⟩
theorem rename_calls (h : DskL B w L b S) (hS : Lim S) (hs : name.size ≤ 1000000) (ho : other.size ≤ 1000000) (hB : B ≤ w.heap.size) (hS1 : Lim (beginS S)) :
    Calls Try.prog 18 #[.pointer (some ⟨b, 0, none⟩), .string name, .string other] w fun e w' => e = .returned (.int .i64 (renameE S name other)) ∧ Went B w L b (renameS S name other) w' := by
  unfold renameE renameS
  by_cases h0 : findE S name = 0
  · rw [if_pos h0, if_pos h0]
    cases hn : namedB other with
    | false => rw [if_pos rfl, if_pos rfl]; exact rename_bad h hS hs ho h0 hn
    | true => rw [if_neg (by decide), if_neg (by decide)]; exact rename_ok h hS hs ho h0 hn hB hS1
  · rw [if_neg h0, if_neg h0]; exact rename_no h hS hs h0
end Go.Proofs.Ytolbicncdookmaa.XDsk
