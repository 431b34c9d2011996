/- The disk's Cut and Sync. Conditions: texts' lengths, counts below a million. -/
import Derived.Test.YtolbicncdookmaaDskAppend

namespace Go.Proofs.Ytolbicncdookmaa.XDsk
open Go Go.RowKit Go.Maps Go.Proofs.YtolbicncdookmaaW.PrintWords Go.Proofs.YtolbicncdookmaaW.PrintLast Go.Proofs.YtolbicncdookmaaW.PrintMore Go.Proofs.Ytolbicncdookmaa.Num
set_option linter.unusedVariables false
set_option linter.unusedSimpArgs false
variable {B b : Nat} {w w1 w2 : World} {L L1 : Lay} {S S1 : PD} {name s : ByteArray} {i n : Int}
theorem find_zero (h0 : findE S name = 0) : S.left ≠ 0 ∧ ∃ i, getN S.names name = some i := by
  rcases findE_cases S name with ⟨e, _⟩ | ⟨e, _⟩ | ⟨_, h1, hg⟩
  · rw [h0] at e; cases e
  · rw [h0] at e; cases e
  · exact ⟨h1, hg⟩
/-- What find tells of a file that is there: its block, in the disk behind it. -/
theorem find_file (h : DskL B w L b S) (hS : Lim S) (hs : name.size ≤ 1000000) (h0 : findE S name = 0) : ∃ p f, L.fs[(numN S name).toNat]? = some p ∧ S.files[(numN S name).toNat]? = some f ∧ f = fileOf S (numN S name) ∧ nowOf S (numN S name) = f.now ∧ f ∈ S.files ∧
    Calls Try.prog 35 #[.pointer (some ⟨b, 0, none⟩), .string name] w fun e w' => e = .returned (.tuple #[.pointer (some ⟨p.1, 0, none⟩), .int .i64 0]) ∧ DskL B w' L b (beginS S) ∧ Upto (fun k => k = b) w w' := by
  obtain ⟨hl0, i, hi⟩ := find_zero h0
  have en : numN S name = i := by unfold numN; rw [hi]; rfl
  rw [en]
  obtain ⟨i0, i1, p, hp, hF0, hff⟩ := h.idx hS hi
  exact ⟨p, fileOf S i, hp, hff, rfl, by unfold nowOf; rw [hff], List.mem_of_getElem? hff, find_some (name := name) h hS (by unfold maxLen; omega) hl0 hi i0 hp⟩
set_option maxHeartbeats 1000000 in
theorem sync_no (h : DskL B w L b S) (hS : Lim S) (hs : name.size ≤ 1000000) (hne : findE S name ≠ 0) :
    Calls Try.prog 14 #[.pointer (some ⟨b, 0, none⟩), .string name] w fun e w' => e = .returned (.int .i64 (findE S name)) ∧ Went B w L b (beginS S) w' := by
  have HF := Lib.hid (find_calls (name := name) h hS (by unfold maxLen; omega))
  obtain ⟨p, hp⟩ : ∃ p, findP L S name = p := ⟨_, rfl⟩
  rw [hp] at HF
  clear h hS hs hp
  rcases findE_or S name with e | e | e
  · rw [e] at HF ⊢
    clear e hne
    go_enter Try.func14, Try.ntmps14
    go_wp2_with (go_at_call 35; refine HF.out.mono ?_; rintro e w1 ⟨rfl, h1, hu1⟩)
    go_ret
    exact ⟨rfl, Went.stay h1 hu1⟩
  · rw [e] at HF ⊢
    clear e hne
    go_enter Try.func14, Try.ntmps14
    go_wp2_with (go_at_call 35; refine HF.out.mono ?_; rintro e w1 ⟨rfl, h1, hu1⟩)
    go_ret
    exact ⟨rfl, Went.stay h1 hu1⟩
  · exact absurd e hne
set_option maxHeartbeats 1000000 in
theorem sync_io (h : DskL B w L b S) (hS : Lim S) (hs : name.size ≤ 1000000) (h0 : findE S name = 0) (hS1 : Lim (beginS S)) (hb : failsB S = true) :
    Calls Try.prog 14 #[.pointer (some ⟨b, 0, none⟩), .string name] w fun e w' => e = .returned (.int .i64 10) ∧ Went B w L b (failsS (beginS S)) w' := by
  obtain ⟨p, f, y4, y5, y1, y2, y3, hfc⟩ := find_file h hS hs h0
  clear y1 y2 y3 y4 y5
  have HF := Lib.hid hfc
  have HFB := Lib.hid (show failsB (beginS S) = true by rw [fails_begin]; exact hb)
  have HS1 := Lib.hid hS1
  clear h hS hs h0 hS1 hb hfc
  go_enter Try.func14, Try.ntmps14
  go_wp2_with (first
    | (go_at_call 35; refine HF.out.mono ?_; rintro e w1 ⟨rfl, h1, hu1⟩)
    | (go_at_call 38; (with_reducible refine (fails_any h1 HS1.out HFB.out).mono ?_); rintro e w3 ⟨rfl, h3, hu3⟩))
  go_ret
  exact ⟨rfl, Went.stay h3 (hu1.then_same hu3)⟩
set_option maxHeartbeats 1000000 in
theorem sync_ok (h : DskL B w L b S) (hS : Lim S) (hs : name.size ≤ 1000000) (h0 : findE S name = 0) (hS1 : Lim (beginS S)) (hb : failsB S = false) :
    Calls Try.prog 14 #[.pointer (some ⟨b, 0, none⟩), .string name] w fun e w' => e = .returned (.int .i64 0) ∧ Went B w L b (setF (failsS (beginS S)) (numN S name) syncF) w' := by
  obtain ⟨p, f, hp, hff, y1, y2, y3, hfc⟩ := find_file h hS hs h0
  clear y1 y2 y3
  have HF := Lib.hid hfc
  have hff3 : (failsS (beginS S)).files[(numN S name).toNat]? = some f := by rw [(fails_same _).2.1, (begin_same S).2.1]; exact hff
  rw [note_set _ hff3]
  have HFB := Lib.hid (show failsB (beginS S) = false by rw [fails_begin]; exact hb)
  have HS1 := Lib.hid hS1
  have HP := Lib.hid hp
  have HFF := Lib.hid hff3
  clear h hS hs h0 hS1 hb hfc hp hff hff3
  go_enter Try.func14, Try.ntmps14
  go_wp2_with (first
    | (go_at_call 35; refine HF.out.mono ?_; rintro e w1 ⟨rfl, h1, hu1⟩)
    | (go_at_call 38; (with_reducible refine (fails_any h1 HS1.out HFB.out).mono ?_); rintro e w3 ⟨rfl, h3, hu3⟩; have HU3 := Lib.hid (hu1.then_same hu3); have hN := Noted.start h3 HP.out HFF.out; obtain ⟨k0, k1, k2, kf⟩ := hN.cells; have HN := Lib.hid hN; have H3 := Lib.hid h3; clear hN h3 hu3))
  go_ret
  have hpm : p ∈ L.fs := List.mem_of_getElem? HP.out
  have hb0 := blk_put HN.out.blk 0 (.string f.now) rfl
  have hb2 := blk_put hb0 2 (.slice none 0 0) rfl
  have hup := ((Upto.refl (fun k => k = p.1 ∨ p.2.ownBlock = some k) w3).setCell (p := ⟨p.1, 0, none⟩) (.inl (.inl rfl)) (.string f.now)).setCell (p := ⟨p.1, 2, none⟩) (.inl (.inl rfl)) (.slice none 0 0)
  have hF : FileAt B ((w3.setCell ⟨p.1, 0, none⟩ (.string f.now)).setCell ⟨p.1, 2, none⟩ (.slice none 0 0)) (p.1, .slice none 0 0) (syncF f) := ⟨(H3.out.each _ p f HP.out HFF.out).ge, hb2, World.ownsRow_nil _ B 71 2⟩
  have hD := H3.out.setFile HP.out HFF.out hF hup (.inr (.inl rfl))
  refine ⟨rfl, _, hD, (HU3.out.foot L).trans hup (fun k hk => .inl (.inr (.inr (.inr (.inr (.inr ⟨p, hpm, hk⟩)))))), fun k hk => .inl ?_⟩
  rcases hk with hk | hk | hk | hk | hk | ⟨q, hq, hk⟩
  · exact .inl hk
  · exact .inr (.inl hk)
  · exact .inr (.inr (.inl hk))
  · exact .inr (.inr (.inr (.inl hk)))
  · exact .inr (.inr (.inr (.inr (.inl hk))))
  · rcases List.mem_or_eq_of_mem_set hq with hq | rfl
    · exact .inr (.inr (.inr (.inr (.inr ⟨q, hq, hk⟩))))
    · rcases hk with hk | hk
      · exact .inr (.inr (.inr (.inr (.inr ⟨p, hpm, .inl hk⟩))))
      · simp [Value.ownBlock] at hk
theorem sync_calls (h : DskL B w L b S) (hS : Lim S) (hs : name.size ≤ 1000000) (hS1 : Lim (beginS S)) :
    Calls Try.prog 14 #[.pointer (some ⟨b, 0, none⟩), .string name] w fun e w' => e = .returned (.int .i64 (syncE S name)) ∧ Went B w L b (syncS S name) w' := by
  unfold syncE syncS
  by_cases h0 : findE S name = 0
  · rw [if_pos h0, if_pos h0]
    cases hb : failsB S with
    | true => rw [if_pos rfl, if_pos rfl]; exact sync_io h hS hs h0 hS1 hb
    | false => rw [if_neg (by decide), if_neg (by decide)]; exact sync_ok h hS hs h0 hS1 hb
  · rw [if_neg h0, if_neg h0]; exact sync_no h hS hs h0
set_option maxHeartbeats 1000000 in
theorem cut_no (h : DskL B w L b S) (hS : Lim S) (hs : name.size ≤ 1000000) (hne : findE S name ≠ 0) :
    Calls Try.prog 24 #[.pointer (some ⟨b, 0, none⟩), .string name, .int .i64 n] w fun e w' => e = .returned (.int .i64 (findE S name)) ∧ Went B w L b (beginS S) w' := by
  have HF := Lib.hid (find_calls (name := name) h hS (by unfold maxLen; omega))
  obtain ⟨p, hp⟩ : ∃ p, findP L S name = p := ⟨_, rfl⟩
  rw [hp] at HF
  clear h hS hs hp
  rcases findE_or S name with e | e | e
  · rw [e] at HF ⊢
    clear e hne
    go_enter Try.func24, Try.ntmps24
    go_wp2_with (go_at_call 35; refine HF.out.mono ?_; rintro e w1 ⟨rfl, h1, hu1⟩)
    go_ret
    exact ⟨rfl, Went.stay h1 hu1⟩
  · rw [e] at HF ⊢
    clear e hne
    go_enter Try.func24, Try.ntmps24
    go_wp2_with (go_at_call 35; refine HF.out.mono ?_; rintro e w1 ⟨rfl, h1, hu1⟩)
    go_ret
    exact ⟨rfl, Went.stay h1 hu1⟩
  · exact absurd e hne
set_option maxHeartbeats 1000000 in
theorem cut_bad (h : DskL B w L b S) (hS : Lim S) (hs : name.size ≤ 1000000) (h0 : findE S name = 0) (hn : n < 0 ∨ ((nowOf S (numN S name)).size : Int) < n) :
    Calls Try.prog 24 #[.pointer (some ⟨b, 0, none⟩), .string name, .int .i64 n] w fun e w' => e = .returned (.int .i64 1) ∧ Went B w L b (beginS S) w' := by
  obtain ⟨p, f, hp, hff, y1, y2, y3, hfc⟩ := find_file h hS hs h0
  rw [y2] at hn
  have HF := Lib.hid hfc
  have HP := Lib.hid hp
  have HFF := Lib.hid (show (beginS S).files[(numN S name).toNat]? = some f by rw [(begin_same S).2.1]; exact hff)
  clear h hS hs h0 hfc y1 y2 y3 hp hff
  by_cases hc : n < 0
  · have d1 : decide (n < 0) = true := decide_eq_true hc
    go_enter Try.func24, Try.ntmps24
    go_wp2_with (first
      | (go_at_call 35; refine HF.out.mono ?_; rintro e w1 ⟨rfl, h1, hu1⟩; have hN := Noted.start h1 HP.out HFF.out; obtain ⟨k0, k1, k2, kf⟩ := hN.cells; clear k0 k2 hN))
    go_ret
    exact ⟨rfl, Went.stay h1 hu1⟩
  · have h2 : ((f.now.size : Nat) : Int) < n := by omega
    have d1 : decide (n < 0) = false := decide_eq_false hc
    have d2 : decide (((f.now.size : Nat) : Int) < n) = true := decide_eq_true h2
    clear hn
    go_enter Try.func24, Try.ntmps24
    go_wp2_with (first
      | (go_at_call 35; refine HF.out.mono ?_; rintro e w1 ⟨rfl, h1, hu1⟩; have hN := Noted.start h1 HP.out HFF.out; obtain ⟨k0, k1, k2, kf⟩ := hN.cells; clear k0 k2 hN))
    go_ret
    exact ⟨rfl, Went.stay h1 hu1⟩
set_option maxHeartbeats 4000000 in
set_option maxRecDepth 100000 in
theorem cut_ok (h : DskL B w L b S) (hS : Lim S) (hs : name.size ≤ 1000000) (h0 : findE S name = 0) (hn : ¬ (n < 0 ∨ ((nowOf S (numN S name)).size : Int) < n)) (hB : B ≤ w.heap.size) :
    Calls Try.prog 24 #[.pointer (some ⟨b, 0, none⟩), .string name, .int .i64 n] w fun e w' => e = .returned (.int .i64 0) ∧ Went B w L b (setF (beginS S) (numN S name) (cutF · n)) w' := by
  obtain ⟨p, f, hp, hff, y1, y2, y3, hfc⟩ := find_file h hS hs h0
  rw [y2] at hn
  have n0 : 0 ≤ n := by omega
  have n1 : n ≤ (f.now.size : Int) := by omega
  have d1 : decide (n < 0) = false := decide_eq_false (by omega)
  have d2 : decide (((f.now.size : Nat) : Int) < n) = false := decide_eq_false (by omega)
  have hff3 : (beginS S).files[(numN S name).toNat]? = some f := by rw [(begin_same S).2.1]; exact hff
  rw [note_set _ hff3]
  have HF := Lib.hid hfc
  have HP := Lib.hid hp
  have HFF := Lib.hid hff3
  have HZ3 := Lib.hid (hS.size f y3).2.2
  have HBB := Lib.hid hB
  clear h hS hs h0 hfc y1 y2 y3 hp hff hff3 hn hB
  obtain ⟨ti, hi0, hz0, hz1, hz2⟩ := info_parts info_change
  have HZ := Lib.hid hi0
  have HZ0 := Lib.hid hz0
  have HZ1 := Lib.hid hz1
  have HZ2 := Lib.hid hz2
  clear hi0 hz0 hz1 hz2
  go_enter Try.func24, Try.ntmps24
  go_wp2_with (first
    | (go_at_call 35; refine HF.out.mono ?_; rintro e w3 ⟨rfl, h3, hu3⟩; have HU3 := Lib.hid (hu3.foot L); have hN := Noted.start h3 HP.out HFF.out; obtain ⟨k0, k1, k2, kf⟩ := hN.cells; have HN := Lib.hid hN; clear hN h3 hu3 k0)
    | (at_builtin; refine wpList_append_lies _ rfl (.tmp 44) (.tmp 47) 64 rfl B 71 ti _ 2 24 Try.underlying64 HZ.out HZ0.out HZ1.out HZ2.out rfl (by decide) p.2 f.ch.length (chV f.ch) rfl (((HN.out.now (f.now.extract 0 n.toNat)).alloc _).row) ⟨w3.heap.size, 0, none⟩ 1 1 [.string ⟨#[]⟩, .int .i64 n] rfl rfl (World.news_of_block (cs := #[.string ⟨#[]⟩, .int .i64 n]) (t := 71) (fr := (0, 0)) (by simpa using heap_alloc_new (w3.setCell ⟨p.1, 1, none⟩ (.string (f.now.extract 0 n.toNat))) (.cells #[.string ⟨#[]⟩, .int .i64 n] 71))) (by simp [Value.oneCell']) (by omega) (by have := HZ3.out; unfold maxLen; omega) (by have := HZ3.out; omega) (by have := HU3.out.size; have := HBB.out; simp; omega) (w3.heap.size + 1) (by simp) ?_; intro g cap w6 hown hgrow hat hlt; obtain ⟨m2, mf⟩ := ((HN.out.now (f.now.extract 0 n.toNat)).alloc (.cells #[.string ⟨#[]⟩, .int .i64 n] 71)).grown_cells hgrow; have HO := Lib.hid hown; have HG := Lib.hid hgrow; have HAT := Lib.hid hat; clear hown hgrow hat hlt))
  go_ret
  exact ⟨rfl, ((HN.out.now (f.now.extract 0 n.toNat)).alloc _).done rfl HO.out HG.out (HAT.out.imp id (fun e => by omega)) HU3.out⟩
theorem cut_calls (h : DskL B w L b S) (hS : Lim S) (hs : name.size ≤ 1000000) (hB : B ≤ w.heap.size) :
    Calls Try.prog 24 #[.pointer (some ⟨b, 0, none⟩), .string name, .int .i64 n] w fun e w' => e = .returned (.int .i64 (cutE S name n)) ∧ Went B w L b (cutS S name n) w' := by
  unfold cutE cutS
  by_cases h0 : findE S name = 0
  · rw [if_pos h0, if_pos h0]
    by_cases hn : n < 0 ∨ ((nowOf S (numN S name)).size : Int) < n
    · rw [if_pos hn, if_pos hn]; exact cut_bad h hS hs h0 hn
    · rw [if_neg hn, if_neg hn]; exact cut_ok h hS hs h0 hn hB
  · rw [if_neg h0, if_neg h0]; exact cut_no h hS hs h0
end Go.Proofs.Ytolbicncdookmaa.XDsk
