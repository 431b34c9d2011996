/- The disk's Append. Conditions: texts' lengths, counts below a million. -/
import Derived.Test.YtolbicncdookmaaDskNote
import Derived.Test.YtolbicncdookmaaDskRename
import Derived.Deep.RegionHeld3
import Derived.IntWalk

namespace Go.Proofs.Ytolbicncdookmaa.XDsk
open Go Go.RowKit Go.Maps Go.Proofs.YtolbicncdookmaaW.PrintWords Go.Proofs.YtolbicncdookmaaW.PrintLast Go.Proofs.YtolbicncdookmaaW.PrintMore Go.Proofs.Ytolbicncdookmaa.Num
set_option linter.unusedVariables false
set_option linter.unusedSimpArgs false
variable {B b : Nat} {w w1 w2 : World} {L L1 : Lay} {S S1 : PD} {name s : ByteArray} {i : Int}
theorem used_begin (S : PD) : usedD (beginS S) = usedD S := by
  unfold usedD usedN nowOf
  rw [(begin_same S).1, (begin_same S).2.1]
set_option maxHeartbeats 1000000 in
theorem append_no (h : DskL B w L b S) (hS : Lim S) (hs : name.size ≤ 1000000) (hne : findE S name ≠ 0) :
    Calls Try.prog 13 #[.pointer (some ⟨b, 0, none⟩), .string name, .string s] w fun e w' => e = .returned (.int .i64 (findE S name)) ∧ Went B w L b (beginS S) w' := by
  have HF := Lib.hid (find_calls (name := name) h hS (by unfold maxLen; omega))
  obtain ⟨p, hp⟩ : ∃ p, findP L S name = p := ⟨_, rfl⟩
  rw [hp] at HF
  clear h hS hs hp
  rcases findE_or S name with e | e | e
  · rw [e] at HF ⊢
    clear e hne
    go_enter Try.func13, Try.ntmps13
    go_wp2_with (go_at_call 35; refine HF.out.mono ?_; rintro e w1 ⟨rfl, h1, hu1⟩)
    go_ret
    exact ⟨rfl, Went.stay h1 hu1⟩
  · rw [e] at HF ⊢
    clear e hne
    go_enter Try.func13, Try.ntmps13
    go_wp2_with (go_at_call 35; refine HF.out.mono ?_; rintro e w1 ⟨rfl, h1, hu1⟩)
    go_ret
    exact ⟨rfl, Went.stay h1 hu1⟩
  · exact absurd e hne
/-- A disk that only lay there while memory grew. -/
structure UK (B : Nat) (w1 : World) (L : Lay) (b : Nat) (S : PD) (W : World) : Prop where
  d : DskL B W L b S
  below : Below w1.heap.size w1 W
theorem UK.drew {W : World} (h : UK B w1 L b S W) : UK B w1 L b S W.drew := ⟨h.d.drew, below_drew h.below⟩
theorem UK.step {W W' : World} (h : UK B w1 L b S W) (hb : Below W.heap.size W W') : UK B w1 L b S W' := ⟨h.d.below hb, below_step h.below hb⟩
theorem UK.room {W : World} {rm : Int} (h : UK B w1 L b S W) (e : S.room = rm) : W.cell? ⟨b, 0, none⟩ = some (.int .i64 rm) := by rw [← e]; exact h.d.cells.1
theorem used_any {W : World} {u : Int} (h : UK B w1 L b S W) (hS : Lim S) (e : usedD S = u) : Calls Try.prog 19 #[.pointer (some ⟨b, 0, none⟩)] W fun e w' => e = .returned (.int .i64 u) ∧ Below W.heap.size W w' := by rw [← e]; exact used_calls h.d hS
set_option maxHeartbeats 4000000 in
set_option maxRecDepth 100000 in
theorem append_full (h : DskL B w L b S) (hS : Lim S) (hs : name.size ≤ 1000000) (h0 : findE S name = 0) (hS1 : Lim (beginS S)) (hf : S.room - usedD S < (s.size : Int)) :
    Calls Try.prog 13 #[.pointer (some ⟨b, 0, none⟩), .string name, .string s] w fun e w' => e = .returned (.int .i64 9) ∧ Went B w L b (beginS S) w' := by
  have HF := Lib.hid (find_calls (name := name) h hS (by unfold maxLen; omega))
  obtain ⟨p, hp⟩ : ∃ p, findP L S name = p := ⟨_, rfl⟩
  rw [hp, h0] at HF
  have hub := usedD_bd hS
  have hrm := hS.room
  obtain ⟨u, hu⟩ : ∃ u, usedD S = u := ⟨_, rfl⟩
  obtain ⟨rm, hr⟩ : ∃ rm, S.room = rm := ⟨_, rfl⟩
  have HU := Lib.hid (show usedD (beginS S) = u by rw [used_begin]; exact hu)
  have HRM := Lib.hid (show (beginS S).room = rm by rw [(begin_same S).2.2.2.2.1]; exact hr)
  rw [hu, hr] at hf
  rw [hu] at hub
  rw [hr] at hrm
  have hsub : IntKind.i64.wrap (rm - u) = rm - u := by rw [i64_w]; exact w64_id (by omega) (by omega)
  have hdec : decide (rm - u < (s.size : Int)) = true := decide_eq_true hf
  have HS1 := Lib.hid hS1
  clear h hS hs hp h0 hS1 hub hrm hf hu hr
  go_enter Try.func13, Try.ntmps13
  go_wp2_with (go_at_call 35; refine HF.out.mono ?_; rintro e w1 ⟨rfl, h1, hu1⟩)
  have hI : UK B w1 L b (beginS S) w1 := ⟨h1, Below.refl _ _⟩
  have HU1 := Lib.hid hu1
  clear hu1 h1
  go_region_held3 (fun W => W.cell? ⟨b, 0, none⟩ = some (.int .i64 rm))
    (first | exact hI.room HRM.out | exact hI.drew.room HRM.out)
    (first
      | (go_at_call 19; first | (with_reducible refine (used_any hI HS1.out HU.out).mono ?_) | (with_reducible refine (used_any hI.drew HS1.out HU.out).mono ?_)
         rintro e w2 ⟨rfl, hb2⟩; have n0_ := UK.step (by first | exact hI | exact hI.drew) hb2; clear hI hb2; have hI := n0_; clear n0_))
  go_wp2
  go_ret
  exact ⟨rfl, Went.stay hI.d (HU1.out.then_below hI.below)⟩
theorem fails_begin (S : PD) : failsB (beginS S) = failsB S := by unfold failsB; rw [(begin_same S).2.2.2.2.2]
theorem fails_same (S : PD) : (failsS S).names = S.names ∧ (failsS S).files = S.files ∧ (failsS S).room = S.room ∧ (failsS S).base = S.base ∧ (failsS S).moves = S.moves := by
  unfold failsS
  by_cases h : S.fail < 1
  · rw [if_pos h]; exact ⟨rfl, rfl, rfl, rfl, rfl⟩
  · rw [if_neg h]; exact ⟨rfl, rfl, rfl, rfl, rfl⟩
theorem fails_any {W : World} {B b : Nat} {L : Lay} {S : PD} {r : Bool} (h : DskL B W L b S) (hS : Lim S) (e : failsB S = r) : Calls Try.prog 38 #[.pointer (some ⟨b, 0, none⟩)] W fun e w' => e = .returned (.bool r) ∧ DskL B w' L b (failsS S) ∧ Upto (fun k => k = b) W w' := by rw [← e]; exact fails_calls h hS
set_option maxHeartbeats 4000000 in
set_option maxRecDepth 100000 in
theorem append_io (h : DskL B w L b S) (hS : Lim S) (hs : name.size ≤ 1000000) (h0 : findE S name = 0) (hS1 : Lim (beginS S)) (hf : ¬ S.room - usedD S < (s.size : Int)) (hb : failsB S = true) :
    Calls Try.prog 13 #[.pointer (some ⟨b, 0, none⟩), .string name, .string s] w fun e w' => e = .returned (.int .i64 10) ∧ Went B w L b (failsS (beginS S)) w' := by
  have HF := Lib.hid (find_calls (name := name) h hS (by unfold maxLen; omega))
  obtain ⟨p, hp⟩ : ∃ p, findP L S name = p := ⟨_, rfl⟩
  rw [hp, h0] at HF
  have hub := usedD_bd hS
  have hrm := hS.room
  obtain ⟨u, hu⟩ : ∃ u, usedD S = u := ⟨_, rfl⟩
  obtain ⟨rm, hr⟩ : ∃ rm, S.room = rm := ⟨_, rfl⟩
  have HU := Lib.hid (show usedD (beginS S) = u by rw [used_begin]; exact hu)
  have HRM := Lib.hid (show (beginS S).room = rm by rw [(begin_same S).2.2.2.2.1]; exact hr)
  have HFB := Lib.hid (show failsB (beginS S) = true by rw [fails_begin]; exact hb)
  rw [hu, hr] at hf
  rw [hu] at hub
  rw [hr] at hrm
  have hsub : IntKind.i64.wrap (rm - u) = rm - u := by rw [i64_w]; exact w64_id (by omega) (by omega)
  have hdec : decide (rm - u < (s.size : Int)) = false := decide_eq_false hf
  have HS1 := Lib.hid hS1
  clear h hS hs hp h0 hS1 hub hrm hf hu hr hb
  go_enter Try.func13, Try.ntmps13
  go_wp2_with (go_at_call 35; refine HF.out.mono ?_; rintro e w1 ⟨rfl, h1, hu1⟩)
  have hI : UK B w1 L b (beginS S) w1 := ⟨h1, Below.refl _ _⟩
  have HU1 := Lib.hid hu1
  clear hu1 h1
  go_region_held3 (fun W => W.cell? ⟨b, 0, none⟩ = some (.int .i64 rm))
    (first | exact hI.room HRM.out | exact hI.drew.room HRM.out)
    (first
      | (go_at_call 19; first | (with_reducible refine (used_any hI HS1.out HU.out).mono ?_) | (with_reducible refine (used_any hI.drew HS1.out HU.out).mono ?_)
         rintro e w2 ⟨rfl, hb2⟩; have n0_ := UK.step (by first | exact hI | exact hI.drew) hb2; clear hI hb2; have hI := n0_; clear n0_))
  go_wp2_with (go_at_call 38; (with_reducible refine (fails_any hI.d HS1.out HFB.out).mono ?_); rintro e w3 ⟨rfl, h3, hu3⟩)
  go_ret
  exact ⟨rfl, Went.stay h3 ((HU1.out.then_below hI.below).then_same hu3)⟩
theorem note_set {f : PF} (S : PD) (hf : S.files[i.toNat]? = some f) (g : PF → PF) : setF S i g = { S with files := S.files.set i.toNat (g f) } := by
  unfold setF; rw [modify_set hf]
set_option maxHeartbeats 4000000 in
set_option maxRecDepth 100000 in
theorem append_ok (h : DskL B w L b S) (hS : Lim S) (hs : name.size ≤ 1000000) (hss : s.size ≤ 1000000) (h0 : findE S name = 0) (hS1 : Lim (beginS S)) (hf : ¬ S.room - usedD S < (s.size : Int)) (hb : failsB S = false) (hB : B ≤ w.heap.size) :
    Calls Try.prog 13 #[.pointer (some ⟨b, 0, none⟩), .string name, .string s] w fun e w' => e = .returned (.int .i64 0) ∧ Went B w L b (setF (failsS (beginS S)) (numN S name) (addF · s)) w' := by
  obtain ⟨hl0, i, hi⟩ : S.left ≠ 0 ∧ ∃ i, getN S.names name = some i := by
    rcases findE_cases S name with ⟨e, _⟩ | ⟨e, _⟩ | ⟨_, h1, hg⟩
    · rw [h0] at e; cases e
    · rw [h0] at e; cases e
    · exact ⟨h1, hg⟩
  have en : numN S name = i := by unfold numN; rw [hi]; rfl
  rw [en]
  obtain ⟨i0, i1, p, hp, hF0, hff⟩ := h.idx hS hi
  obtain ⟨f, hfe⟩ : ∃ f, fileOf S i = f := ⟨_, rfl⟩
  rw [hfe] at hff
  have hff3 : (failsS (beginS S)).files[i.toNat]? = some f := by rw [(fails_same _).2.1, (begin_same S).2.1]; exact hff
  rw [note_set _ hff3]
  obtain ⟨z1, z2, z3⟩ := hS.size f (List.mem_of_getElem? hff)
  have HF := Lib.hid (find_some (name := name) h hS (by unfold maxLen; omega) hl0 hi i0 hp)
  have hub := usedD_bd hS
  have hrm := hS.room
  obtain ⟨u, hu⟩ : ∃ u, usedD S = u := ⟨_, rfl⟩
  obtain ⟨rm, hr⟩ : ∃ rm, S.room = rm := ⟨_, rfl⟩
  have HU := Lib.hid (show usedD (beginS S) = u by rw [used_begin]; exact hu)
  have HRM := Lib.hid (show (beginS S).room = rm by rw [(begin_same S).2.2.2.2.1]; exact hr)
  have HFB := Lib.hid (show failsB (beginS S) = false by rw [fails_begin]; exact hb)
  rw [hu, hr] at hf
  rw [hu] at hub
  rw [hr] at hrm
  have hsub : IntKind.i64.wrap (rm - u) = rm - u := by rw [i64_w]; exact w64_id (by omega) (by omega)
  have hdec : decide (rm - u < (s.size : Int)) = false := decide_eq_false hf
  have HS1 := Lib.hid hS1
  have HP := Lib.hid hp
  have HFF := Lib.hid hff3
  have HZ3 := Lib.hid z3
  have HBB := Lib.hid hB
  have hbig : (9223372036854775807 < f.now.size + s.size) = False := eq_false (by omega)
  clear h hS hs hp h0 hS1 hub hrm hf hu hr hb hss hl0 hi en i0 i1 hF0 hff hfe hff3 z1 z2 z3 hB
  obtain ⟨ti, hi0, hz0, hz1, hz2⟩ := info_parts info_change
  have HZ := Lib.hid hi0
  have HZ0 := Lib.hid hz0
  have HZ1 := Lib.hid hz1
  have HZ2 := Lib.hid hz2
  clear hi0 hz0 hz1 hz2
  go_enter Try.func13, Try.ntmps13
  go_wp2_with (go_at_call 35; refine HF.out.mono ?_; rintro e w1 ⟨rfl, h1, hu1⟩)
  have hI : UK B w1 L b (beginS S) w1 := ⟨h1, Below.refl _ _⟩
  have HU1 := Lib.hid hu1
  clear hu1 h1
  go_region_held3 (fun W => W.cell? ⟨b, 0, none⟩ = some (.int .i64 rm))
    (first | exact hI.room HRM.out | exact hI.drew.room HRM.out)
    (first
      | (go_at_call 19; first | (with_reducible refine (used_any hI HS1.out HU.out).mono ?_) | (with_reducible refine (used_any hI.drew HS1.out HU.out).mono ?_)
         rintro e w2 ⟨rfl, hb2⟩; have n0_ := UK.step (by first | exact hI | exact hI.drew) hb2; clear hI hb2; have hI := n0_; clear n0_))
  go_wp2_with (first
    | (go_at_call 38; (with_reducible refine (fails_any hI.d HS1.out HFB.out).mono ?_); rintro e w3 ⟨rfl, h3, hu3⟩; have HU3 := Lib.hid (((HU1.out.then_below hI.below).then_same hu3).foot L); have hN := Noted.start h3 HP.out HFF.out; obtain ⟨k0, k1, k2, kf⟩ := hN.cells; have HN := Lib.hid hN; clear hN h3 hu3 k0)
    | (at_builtin; refine wpList_append_lies _ rfl (.tmp 45) (.tmp 48) 64 rfl B 71 ti _ 2 24 Try.underlying64 HZ.out HZ0.out HZ1.out HZ2.out rfl (by decide) p.2 f.ch.length (chV f.ch) rfl (((HN.out.now (f.now ++ s)).alloc _).row) ⟨w3.heap.size, 0, none⟩ 1 1 [.string s, .int .i64 (-1)] rfl rfl (World.news_of_block (cs := #[.string s, .int .i64 (-1)]) (t := 71) (fr := (0, 0)) (by simpa using heap_alloc_new (w3.setCell ⟨p.1, 1, none⟩ (.string (f.now ++ s))) (.cells #[.string s, .int .i64 (-1)] 71))) (by simp [Value.oneCell']) (by omega) (by have := HZ3.out; unfold maxLen; omega) (by have := HZ3.out; omega) (by have := HU3.out.size; have := HBB.out; simp; omega) (w3.heap.size + 1) (by simp) ?_; intro g cap w6 hown hgrow hat hlt; obtain ⟨m2, mf⟩ := ((HN.out.now (f.now ++ s)).alloc (.cells #[.string s, .int .i64 (-1)] 71)).grown_cells hgrow; have HO := Lib.hid hown; have HG := Lib.hid hgrow; have HAT := Lib.hid hat; clear hown hgrow hat hlt))
  go_ret
  exact ⟨rfl, ((HN.out.now (f.now ++ s)).alloc _).done rfl HO.out HG.out (HAT.out.imp id (fun e => by omega)) HU3.out⟩
theorem append_calls (h : DskL B w L b S) (hS : Lim S) (hs : name.size ≤ 1000000) (hss : s.size ≤ 1000000) (hS1 : Lim (beginS S)) (hB : B ≤ w.heap.size) :
    Calls Try.prog 13 #[.pointer (some ⟨b, 0, none⟩), .string name, .string s] w fun e w' => e = .returned (.int .i64 (appendE S name s)) ∧ Went B w L b (appendS S name s) w' := by
  unfold appendE appendS
  by_cases h0 : findE S name = 0
  · rw [if_pos h0, if_pos h0]
    by_cases hf : S.room - usedD S < (s.size : Int)
    · rw [if_pos hf, if_pos hf]; exact append_full h hS hs h0 hS1 hf
    · rw [if_neg hf, if_neg hf]
      cases hb : failsB S with
      | true => rw [if_pos rfl, if_pos rfl]; exact append_io h hS hs h0 hS1 hf hb
      | false => rw [if_neg (by decide), if_neg (by decide)]; exact append_ok h hS hs hss h0 hS1 hf hb hB
  · rw [if_neg h0, if_neg h0]; exact append_no h hS hs h0
end Go.Proofs.Ytolbicncdookmaa.XDsk
