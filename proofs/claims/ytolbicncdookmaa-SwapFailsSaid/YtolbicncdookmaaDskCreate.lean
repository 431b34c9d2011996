/- The disk's Create. Conditions: a text's length, counts below a million. -/
import Derived.Test.YtolbicncdookmaaDskFindU
import Derived.Test.YtolbicncdookmaaDskNamed
import Derived.Test.YtolbicncdookmaaXDskx1
namespace Go.Proofs.Ytolbicncdookmaa.XDsk
open Go Go.RowKit Go.Maps Go.Proofs.YtolbicncdookmaaW.PrintWords Go.Proofs.YtolbicncdookmaaW.PrintLast Go.Proofs.YtolbicncdookmaaW.PrintMore Go.Proofs.Ytolbicncdookmaa.Num
set_option linter.unusedVariables false
set_option linter.unusedSimpArgs false
theorem info_fptr : (Try.prog.info? 60).map (fun i => (i.zero, i.size, i.bytes)) = some (some (.pointer none), 1, 8) := by kernel_rfl
theorem ptrs_snoc (fs : List (Nat × Value)) (p : Nat × Value) : ptrs (fs ++ [p]) = ptrs fs ++ [.pointer (some ⟨p.1, 0, none⟩)] := by unfold ptrs; rw [List.map_append]; rfl
theorem ptrs_len (fs : List (Nat × Value)) : (ptrs fs).length = fs.length := List.length_map _
variable {B b : Nat} {w w1 w2 : World} {L L1 : Lay} {S S1 : PD} {name : ByteArray} {i : Int}
theorem named_calls (hs : name.size ≤ 1000000) (w : World) : Calls Try.prog 36 #[.string name] w fun e w' => e = .returned (.bool (namedB name)) ∧ ∃ n, w' = w.drewN n := by
  obtain ⟨k, hk⟩ := named_f name (by omega)
  refine (disk_named.calls k name _ w hk).mono ?_
  rintro e w' ⟨rfl, ⟨n, hd⟩⟩
  exact ⟨rfl, n, hd⟩
set_option maxHeartbeats 1000000 in
/-- Create that tells 11, 3 or 4. -/
theorem create_no (h : DskL B w L b S) (hS : Lim S) (hs : name.size ≤ 1000000) {e0 : Int} (he : createE S name = e0) (hne : e0 ≠ 0) :
    Calls Try.prog 12 #[.pointer (some ⟨b, 0, none⟩), .string name] w fun e w' => e = .returned (.int .i64 e0) ∧ Went B w L b (beginS S) w' := by
  have HF := Lib.hid (find_calls (name := name) h hS (by unfold maxLen; omega))
  have HN := Lib.hid (fun w => named_calls hs w)
  obtain ⟨p, hp⟩ : ∃ p, findP L S name = p := ⟨_, rfl⟩
  rw [hp] at HF
  clear h hS hs hp
  unfold createE at he
  rcases findE_cases S name with ⟨e1, h0⟩ | ⟨e1, h0, hg⟩ | ⟨e1, h0, i, hg⟩
  · rw [if_pos h0] at he
    subst he
    rw [e1] at HF
    clear e1 h0 hne
    go_enter Try.func12, Try.ntmps12
    go_wp2_with (go_at_call 35; refine HF.out.mono ?_; rintro e w1 ⟨rfl, h1, hu1⟩)
    go_ret
    exact ⟨rfl, Went.stay h1 hu1⟩
  · rw [if_neg h0] at he
    rw [e1] at HF
    cases hn : namedB name with
    | true => rw [if_neg (by rw [hn]; decide), hg] at he; exact absurd he.symm hne
    | false =>
      rw [if_pos hn] at he
      subst he
      have HN2 := HN.out
      rw [hn] at HN2
      have HN3 := Lib.hid HN2
      clear e1 h0 hne hg hn HN HN2
      go_enter Try.func12, Try.ntmps12
      go_wp2_with (first
        | (go_at_call 35; refine HF.out.mono ?_; rintro e w1 ⟨rfl, h1, hu1⟩)
        | (go_at_call 36; refine (HN3.out _).mono ?_; rintro e w2 ⟨rfl, nd, rfl⟩))
      go_ret
      exact ⟨rfl, Went.stay (h1.drewN nd) (hu1.drewN nd)⟩
  · rw [if_neg h0] at he
    rw [e1] at HF
    cases hn : namedB name with
    | true =>
      rw [if_neg (by rw [hn]; decide), hg, if_pos (show (some i).isSome = true from rfl)] at he
      subst he
      have HN2 := HN.out
      rw [hn] at HN2
      have HN3 := Lib.hid HN2
      clear e1 h0 hne hg hn HN HN2
      go_enter Try.func12, Try.ntmps12
      go_wp2_with (first
        | (go_at_call 35; refine HF.out.mono ?_; rintro e w1 ⟨rfl, h1, hu1⟩)
        | (go_at_call 36; refine (HN3.out _).mono ?_; rintro e w2 ⟨rfl, nd, rfl⟩))
      go_ret
      exact ⟨rfl, Went.stay (h1.drewN nd) (hu1.drewN nd)⟩
    | false =>
      rw [if_pos hn] at he
      subst he
      have HN2 := HN.out
      rw [hn] at HN2
      have HN3 := Lib.hid HN2
      clear e1 h0 hne hg hn HN HN2
      go_enter Try.func12, Try.ntmps12
      go_wp2_with (first
        | (go_at_call 35; refine HF.out.mono ?_; rintro e w1 ⟨rfl, h1, hu1⟩)
        | (go_at_call 36; refine (HN3.out _).mono ?_; rintro e w2 ⟨rfl, nd, rfl⟩))
      go_ret
      exact ⟨rfl, Went.stay (h1.drewN nd) (hu1.drewN nd)⟩
theorem wf_of {x : Int} (h0 : -9223372036854775808 ≤ x) (h1 : x < 9223372036854775808) : (Lit.int .i64 x).wf = true := by
  simp [Lit.wf, IntKind.min, IntKind.max, IntKind.signed, IntKind.bits]; omega
theorem two_new (w : World) (x y : Value) : ((w.alloc (.cells #[.string ⟨#[]⟩, .string ⟨#[]⟩, x] 66)).alloc (.cells #[y] 60)).heap[w.heap.size + 1]? = some (.cells #[y] 60 (0, 0)) := by
  have := heap_alloc_new (w.alloc (.cells #[.string ⟨#[]⟩, .string ⟨#[]⟩, x] 66)) (.cells #[y] 60)
  simpa using this
theorem create_mid {g cap : Nat} {w3 : World} {y : Value} (hS1 : Lim { beginS S with files := S.files ++ [⟨ByteArray.empty, ByteArray.empty, []⟩] }) (hlen : L.fs.length = S.files.length) (hs : name.size ≤ 1000000) (hB : B ≤ w.heap.size) (hu : Upto (fun k => k = b) w w2) (h2 : DskL B w2 L b (beginS S))
    (hown : w3.ownsRow B 60 1 (.slice (some ⟨g, 0, none⟩) (L.fs.length + 1) cap) (L.fs.length + 1) (ptrs L.fs ++ [.pointer (some ⟨w2.heap.size, 0, none⟩)]))
    (hgrow : ((w2.alloc (.cells #[.string ⟨#[]⟩, .string ⟨#[]⟩, .slice none 0 0] 66)).alloc (.cells #[y] 60)).grownBy w3 L.vf.ownBlock) (hat : L.vf.ownBlock = some g ∨ g = w2.heap.size + 2) :
    Hid (Calls Try.prog 37 #[.pointer (some ⟨b, 0, none⟩), .agg #[.string ⟨#[]⟩, .string name, .int .i64 (wrap64 (L.fs.length : Int))]] (w3.setCell ⟨b, 1, none⟩ (.slice (some ⟨g, 0, none⟩) (L.fs.length + 1) cap)) fun e w' => e = .returned (.tuple #[]) ∧ Went B w L b (movedS { beginS S with files := S.files ++ [⟨ByteArray.empty, ByteArray.empty, []⟩] } ⟨ByteArray.empty, name, (S.files.length : Int)⟩) w') ∧ w3.cell? ⟨b, 1, none⟩ = some L.vf ∧ ∀ j, w3.frozen? ⟨b, j, none⟩ = false := by
  have h3 := (h2.alloc (.cells #[.string ⟨#[]⟩, .string ⟨#[]⟩, .slice none 0 0] 66)).alloc (.cells #[y] 60)
  have hfb : ((w2.alloc (.cells #[.string ⟨#[]⟩, .string ⟨#[]⟩, .slice none 0 0] 66)).alloc (.cells #[y] 60)).heap[w2.heap.size]? = some (.cells #[.string ByteArray.empty, .string ByteArray.empty, .slice none 0 0] 66 (0, 0)) := blk_alloc (blk_new w2 _) _
  have hne : L.vf.ownBlock ≠ some b := fun e => by obtain ⟨cur, hb⟩ := row_obj h3.files e; exact blk_ne hb h3.box (by decide) rfl
  have hb3 := blk_grown h3.box hgrow (fun e => hne e.symm)
  have hs0 := hu.size
  have h4 := h3.addFile (s := ByteArray.empty) hfb (by omega) (fun p hp => by obtain ⟨f, hf⟩ := h2.of_mem hp; have := blk_lt hf.blk; omega) (by rw [ptrs_snoc]; exact hown) hgrow
  have hgs := hgrow.size
  have hsz : w2.heap.size + 2 ≤ w3.heap.size := by simpa using hgs
  have hu4 : Upto (foot L b) w (w3.setCell ⟨b, 1, none⟩ (.slice (some ⟨g, 0, none⟩) (L.fs.length + 1) cap)) :=
    ((((hu.mono (G := foot L b) (fun k hk => .inl hk)).alloc _).alloc _).grown hgrow (fun j hj => .inl (.inr (.inr (.inr (.inl hj)))))).setCell (.inl (.inl rfl)) _
  have e1 : ({ beginS S with files := (beginS S).files ++ [⟨ByteArray.empty, ByteArray.empty, []⟩] } : PD) = { beginS S with files := S.files ++ [⟨ByteArray.empty, ByteArray.empty, []⟩] } := by rw [(begin_same S).2.1]
  rw [e1] at h4
  refine ⟨Lib.hid ?_, (blk_cell hb3 1).trans rfl, blk_frozen hb3⟩
  have hm := moved_calls ⟨ByteArray.empty, name, (S.files.length : Int)⟩ h4 hS1 ⟨by show ByteArray.empty.size ≤ maxLen; decide, by show name.size ≤ maxLen; unfold maxLen; omega, by have := hS1.files; simp only [List.length_append, List.length_cons, List.length_nil] at this; exact wf_of (x := (S.files.length : Int)) (by omega) (by omega)⟩ (by show B ≤ (w3.setCell _ _).heap.size; simp [World.setCell]; omega)
  have hx : wrap64 (L.fs.length : Int) = (S.files.length : Int) := by have := hS1.files; simp only [List.length_append, List.length_cons, List.length_nil] at this; rw [hlen]; exact w64_id (by omega) (by omega)
  rw [hx]
  refine Calls.mono (show Calls Try.prog 37 #[.pointer (some ⟨b, 0, none⟩), .agg #[.string ⟨#[]⟩, .string name, .int .i64 (S.files.length : Int)]] _ _ from hm) ?_
  rintro e w' ⟨rfl, hW⟩
  refine ⟨rfl, hW.after hu4 (fun k hk => ?_)⟩
  rcases hk with hk | hk | hk | hk | hk | ⟨p, hp, hk⟩
  · exact .inl (.inl hk)
  · exact .inl (.inr (.inl hk))
  · exact .inl (.inr (.inr (.inl hk)))
  · injection hk with hk
    subst hk
    rcases hat with e | e
    · exact .inl (.inr (.inr (.inr (.inl e))))
    · right; show w.heap.size ≤ g; omega
  · exact .inl (.inr (.inr (.inr (.inr (.inl hk)))))
  · rcases List.mem_append.1 hp with hp | hp
    · exact .inl (.inr (.inr (.inr (.inr (.inr ⟨p, hp, hk⟩)))))
    · rw [List.mem_singleton] at hp
      subst hp
      rcases hk with hk | hk
      · right; rw [hk]; exact hs0
      · simp [Value.ownBlock] at hk
set_option maxHeartbeats 1000000 in
set_option maxRecDepth 100000 in
/-- Create that is done. -/
theorem create_ok (h : DskL B w L b S) (hS : Lim S) (hs : name.size ≤ 1000000) (h0 : S.left ≠ 0) (hn : namedB name = true) (hg : getN S.names name = none) (hB : B ≤ w.heap.size) (hS1 : Lim { beginS S with files := S.files ++ [⟨ByteArray.empty, ByteArray.empty, []⟩] }) :
    Calls Try.prog 12 #[.pointer (some ⟨b, 0, none⟩), .string name] w fun e w' => e = .returned (.int .i64 0) ∧ Went B w L b (createS S name) w' := by
  have HF := Lib.hid (find_none (name := name) h hS (by unfold maxLen; omega) h0 hg)
  have HN2 := fun w => named_calls hs w
  rw [hn] at HN2
  have HN := Lib.hid HN2
  have eS : createS S name = movedS { beginS S with files := S.files ++ [⟨ByteArray.empty, ByteArray.empty, []⟩] } ⟨ByteArray.empty, name, (S.files.length : Int)⟩ := by
    unfold createS; rw [if_neg h0, if_neg (by rw [hn]; decide), hg]; rfl
  rw [eS]
  have HLF := Lib.hid hS.files
  have HLIM := Lib.hid hS1
  have HS := Lib.hid hs
  have HLEN := Lib.hid h.len
  clear h hS hs h0 hn hg HN2 eS hS1
  obtain ⟨i0, hi0, hz0, hz1, hz2⟩ := info_parts info_fptr
  have HZ := Lib.hid hi0
  have HZ0 := Lib.hid hz0
  have HZ1 := Lib.hid hz1
  have HZ2 := Lib.hid hz2
  clear hi0 hz0 hz1 hz2
  go_enter Try.func12, Try.ntmps12
  go_wp2_with (first
    | (go_at_call 35; refine HF.out.mono ?_; rintro e w1 ⟨rfl, h1, hu1⟩)
    | (go_at_call 36; refine (HN.out _).mono ?_; rintro e w2 ⟨rfl, nd, rfl⟩; have h2 := h1.drewN nd; have hu2 := hu1.drewN nd; generalize w1.drewN nd = w2 at h2 hu2 ⊢; have H2 := Lib.hid h2; have HU2 := Lib.hid hu2; obtain ⟨c0, c1, c2, c3, c4, c5, c6, c7, f⟩ := h2.cells; have HB := Lib.hid (show b < w2.heap.size from blk_lt h2.box); clear c0 c2 c3 c4 c5 c6 c7 h1 hu1 h2 hu2)
    | (at_builtin; refine wpList_append_lies _ rfl (.tmp 28) (.tmp 31) 56 rfl B 60 i0 _ 1 8 Try.underlying56 HZ.out HZ0.out HZ1.out HZ2.out rfl (by decide) L.vf L.fs.length (ptrs L.fs) rfl ((H2.out.files.alloc _).alloc _) ⟨w2.heap.size + 1, 0, none⟩ 1 1 [.pointer (some ⟨w2.heap.size, 0, none⟩)] rfl rfl (World.news_of_block (cs := #[.pointer (some ⟨w2.heap.size, 0, none⟩)]) (t := 60) (fr := (0, 0)) (two_new w2 _ _)) (by simp [Value.oneCell']) (by omega) (by have := HLF.out; have := HLEN.out; unfold maxLen; omega) (by have := HLF.out; have := HLEN.out; omega) (by have := HU2.out.size; simp; omega) (w2.heap.size + 2) (by simp) ?_; intro g cap w3 hown hgrow hat hlt; obtain ⟨HM, b1, f1⟩ := create_mid HLIM.out HLEN.out HS.out hB HU2.out H2.out hown hgrow hat; clear hown hgrow hat c1 f)
    | (go_at_call 37; (with_reducible refine HM.out.mono ?_); rintro e w4 ⟨rfl, hW⟩; have HW := Lib.hid hW; clear hW))
  go_ret
  exact ⟨rfl, HW.out⟩
/-- Create. -/
theorem create_calls (h : DskL B w L b S) (hS : Lim S) (hs : name.size ≤ 1000000) (hB : B ≤ w.heap.size) (hS1 : Lim { beginS S with files := S.files ++ [⟨ByteArray.empty, ByteArray.empty, []⟩] }) :
    Calls Try.prog 12 #[.pointer (some ⟨b, 0, none⟩), .string name] w fun e w' => e = .returned (.int .i64 (createE S name)) ∧ Went B w L b (createS S name) w' := by
  by_cases he : createE S name = 0
  · rw [he]
    unfold createE at he
    by_cases h0 : S.left = 0
    · rw [if_pos h0] at he; cases he
    · rw [if_neg h0] at he
      cases hn : namedB name with
      | false => rw [if_pos hn] at he; cases he
      | true =>
        rw [if_neg (by rw [hn]; decide)] at he
        cases hg : getN S.names name with
        | some i => rw [hg, if_pos (show (some i).isSome = true from rfl)] at he; cases he
        | none => exact create_ok h hS hs h0 hn hg hB hS1
  · have e1 : createS S name = beginS S := by
      unfold createS
      unfold createE at he
      by_cases h0 : S.left = 0
      · rw [if_pos h0, (begin_zero h0).1]
      · rw [if_neg h0] at he ⊢
        cases hn : namedB name with
        | false => rw [if_pos rfl]
        | true =>
          rw [if_neg (by rw [hn]; decide)] at he
          rw [if_neg (by decide)]
          cases hg : getN S.names name with
          | some i => rw [if_pos (show (some i).isSome = true from rfl)]
          | none => rw [hg] at he; exact absurd rfl he
    rw [e1]
    exact create_no h hS hs rfl he
end Go.Proofs.Ytolbicncdookmaa.XDsk
