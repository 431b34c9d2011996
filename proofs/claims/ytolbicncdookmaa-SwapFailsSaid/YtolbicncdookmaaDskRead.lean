/- The disk's New, Read, SyncDir, List. Conditions: counts below a million. -/
import Derived.Test.YtolbicncdookmaaDskLib
import Derived.Test.YtolbicncdookmaaDskSync

namespace Go.Proofs.Ytolbicncdookmaa.XDsk
open Go Go.RowKit Go.Maps Go.Sort Go.Shelf Go.Proofs.YtolbicncdookmaaW.PrintWords Go.Proofs.YtolbicncdookmaaW.PrintLast Go.Proofs.YtolbicncdookmaaW.PrintMore Go.Proofs.Ytolbicncdookmaa.Num
attribute [local go_sem] max2_int min2_int max_two min_two
set_option linter.unusedVariables false
set_option linter.unusedSimpArgs false
variable {B b : Nat} {w w1 w2 : World} {L L1 : Lay} {S S1 : PD} {name s : ByteArray} {i n : Int}
theorem readV_zero (h0 : findE S name = 0) : readV S name = nowOf S (numN S name) := by unfold readV; rw [if_pos h0]
theorem readV_not (h0 : findE S name ≠ 0) : readV S name = ByteArray.empty := by unfold readV; rw [if_neg h0]
set_option maxHeartbeats 1000000 in
theorem read_calls (h : DskL B w L b S) (hS : Lim S) (hs : name.size ≤ 1000000) :
    Calls Try.prog 17 #[.pointer (some ⟨b, 0, none⟩), .string name] w fun e w' => e = .returned (.tuple #[.string (readV S name), .int .i64 (findE S name)]) ∧ w = w' := by
  have hs2 : name.size ≤ maxLen := by unfold maxLen; omega
  obtain ⟨c0, c1, c2, c3, c4, c5, c6, c7, f⟩ := h.cells
  have HN := Lib.hid h.names
  cases hg : getN S.names name with
  | none =>
    have HG := Lib.hid hg
    by_cases h0 : S.left = 0
    · have e1 : findE S name = 11 := by unfold findE; rw [if_pos h0]
      rw [readV_not (by rw [e1]; decide), e1]
      rw [h0] at c7
      clear c0 c1 c3 c4 c5 c6 f h hS hs h0 e1 hg
      go_enter Try.func17, Try.ntmps17
      go_wp2_with (at_lookup; refine wp_get_none _ HG.out HN.out hs2 rfl _ _ rfl rfl rfl ?_)
      go_ret2
      exact ⟨rfl, rfl⟩
    · have e1 : findE S name = 5 := by unfold findE; rw [if_neg h0, hg]
      rw [readV_not (by rw [e1]; decide), e1]
      have hq : (S.left == 0) = false := beq_eq_false_iff_ne.2 h0
      clear c0 c1 c3 c4 c5 c6 f h hS hs h0 e1 hg
      go_enter Try.func17, Try.ntmps17
      go_wp2_with (at_lookup; refine wp_get_none _ HG.out HN.out hs2 rfl _ _ rfl rfl rfl ?_)
      go_ret2
      exact ⟨rfl, rfl⟩
  | some i =>
    have HG := Lib.hid hg
    by_cases h0 : S.left = 0
    · have e1 : findE S name = 11 := by unfold findE; rw [if_pos h0]
      rw [readV_not (by rw [e1]; decide), e1]
      rw [h0] at c7
      clear c0 c1 c3 c4 c5 c6 f h hS hs h0 e1 hg
      go_enter Try.func17, Try.ntmps17
      go_wp2_with (at_lookup; refine wp_get_some _ HG.out HN.out hs2 rfl _ _ rfl rfl rfl ?_)
      go_ret2
      exact ⟨rfl, rfl⟩
    · have e1 : findE S name = 0 := by unfold findE; rw [if_neg h0, hg]
      rw [readV_zero e1, e1]
      obtain ⟨i0, i1, p, hp, hF, hff⟩ := h.idx hS hg
      obtain ⟨g, cap, hv, hpc, hpl⟩ := h.ptr i0 hp
      rw [hv] at c1
      have en : numN S name = i := by unfold numN; rw [hg]; rfl
      have hnow : nowOf S (numN S name) = (fileOf S i).now := by rw [en]; unfold nowOf; rw [hff]
      rw [hnow]
      have k1 : w.cell? ⟨p.1, 1, none⟩ = some (.string (fileOf S i).now) := (blk_cell hF.blk 1).trans rfl
      have hq : (S.left == 0) = false := beq_eq_false_iff_ne.2 h0
      clear c0 c3 c4 c5 c6 f h hS hs h0 e1 hg hp hF hff hv en hnow i1
      go_enter Try.func17, Try.ntmps17
      go_wp2_with (at_lookup; refine wp_get_some _ HG.out HN.out hs2 rfl _ _ rfl rfl rfl ?_)
      go_ret2
      exact ⟨rfl, rfl⟩
set_option maxHeartbeats 1000000 in
theorem syncDir_calls (h : DskL B w L b S) (hS : Lim S) (hB : B ≤ w.heap.size) :
    Calls Try.prog 15 #[.pointer (some ⟨b, 0, none⟩)] w fun e w' => e = .returned (.int .i64 (beginE S)) ∧ Went B w L b (syncDirS S) w' := by
  have HB := Lib.hid (begin_calls h hS)
  unfold syncDirS
  by_cases h0 : S.left = 0
  · rw [if_pos h0]
    obtain ⟨e1, e2⟩ := begin_zero h0
    rw [e1, e2] at HB
    rw [e2]
    clear h hS h0 e1 e2 hB
    go_enter Try.func15, Try.ntmps15
    go_wp2_with (go_at_call 39; refine HB.out.mono ?_; rintro e w1 ⟨rfl, h1, hu1⟩)
    go_ret
    exact ⟨rfl, Went.stay h1 hu1⟩
  · rw [if_neg h0]
    rw [begin_on h0] at HB ⊢
    have HBB := Lib.hid hB
    clear h hS h0 hB
    go_enter Try.func15, Try.ntmps15
    go_wp2_with (first
      | (go_at_call 39; refine HB.out.mono ?_; rintro e w1 ⟨rfl, h1, hu1⟩; obtain ⟨c0, c1, c2, c3, c4, c5, c6, c7, f⟩ := h1.cells; clear c0 c1 c3 c4 c5 c6 c7)
      | (go_at_call 40; refine (clone_calls h1.names).mono ?_; rintro e w2 ⟨rfl, hm2, hb2⟩; have h2 := h1.below hb2; obtain ⟨d0, d1, d2, d3, d4, d5, d6, d7, f2⟩ := h2.cells; clear d0 d1 d2 d5 d6 d7 c2 f; have HM := Lib.hid hm2; have H2 := Lib.hid h2; have HB2 := Lib.hid hb2; clear hm2 h2 hb2))
    go_ret
    have hs1 := hu1.size
    have hlt := World.ownsMap.lt h1.names
    have h3 := H2.out.setBase HM.out (by have := HBB.out; omega) (by omega)
    have h4 := h3.nilMoves
    rw [congrArg (fun x => ({ beginS S with base := x, moves := [] } : PD)) (begin_same S).1.symm]
    refine ⟨rfl, _, h4, (((hu1.then_below HB2.out).set1 3 _).set1 4 _).foot L, fun k hk => ?_⟩
    rcases hk with hk | hk | hk | hk | hk | hk
    · exact .inl (.inl hk)
    · exact .inl (.inr (.inl hk))
    · right; rw [hk]; exact hs1
    · exact .inl (.inr (.inr (.inr (.inl hk))))
    · simp [Value.ownBlock] at hk
    · exact .inl (.inr (.inr (.inr (.inr (.inr hk)))))
/-! ### List -/
def StrRow (w : World) (v : Value) (l : List ByteArray) : Prop := ∃ A cap, v = .slice A l.length cap ∧ Kd.C Kd.string w A l.length l ∧ l.length ≤ cap
theorem bytes_lt : ∀ {a b : List UInt8}, bytesBefore a b = true → a < b
  | [], [], h => by simp [bytesBefore] at h
  | [], _ :: _, _ => List.Lex.nil
  | _ :: _, [], h => by simp [bytesBefore] at h
  | x :: r, y :: s, h => by
    simp only [bytesBefore, Bool.or_eq_true, Bool.and_eq_true, decide_eq_true_eq, beq_iff_eq] at h
    rcases h with h | ⟨rfl, h⟩
    · exact List.Lex.rel h
    · exact List.Lex.cons (bytes_lt h)
theorem strKeys_mapD (m : Names) : strKeys (mapD m) = m.map (fun p => p.1.data.toList) := by
  unfold mapD strKeys
  simp only []
  rw [List.map_map]; rfl
theorem MapAt.rising {w : World} {g : Nat} {m : Names} (h : MapAt w g m) : m.Pairwise (fun p q => bytesBefore p.1.data.toList q.1.data.toList = true) := by
  obtain ⟨es, he, hp, _⟩ := World.ownsMap.canon h law_s
  unfold mapD at he
  injection he with he
  rw [← he, List.pairwise_map] at hp
  exact hp
theorem keys_sorted {m : Names} (h : m.Pairwise (fun p q => bytesBefore p.1.data.toList q.1.data.toList = true)) {ss : List (List UInt8)} (hp : ss.Perm (strKeys (mapD m))) : ss.mergeSort (fun x y => decide (x ≤ y)) = m.map (fun p => p.1.data.toList) := by
  rw [mergeSort_of_perm hp, strKeys_mapD]
  refine List.mergeSort_of_pairwise ?_
  rw [List.pairwise_map]
  exact h.imp (fun {a b} hab => decide_eq_true (List.le_of_lt (bytes_lt hab)))
theorem reads_of_own {w : World} {base : Nat} {v : Value} {l : List ByteArray} (h : w.ownsRow base 9 1 v l.length (l.map Value.string)) : StrRow w v l := by
  have hb : l.length ≤ 9223372036854775807 := by
    rcases h.2 with ⟨_, h0⟩ | ⟨g, cap, cur, _, _, _, h1, h2, _⟩
    · omega
    · unfold maxLen at h2; omega
  rcases h.2 with ⟨rfl, h0⟩ | ⟨g, cap, cur, rfl, hbg, hgg, h1, h2, h3, h4⟩
  · have hl : l = [] := List.eq_nil_of_length_eq_zero h0
    subst hl
    exact ⟨none, 0, rfl, Kd.C_of_reads (d := ByteArray.empty) (ReadsOf.nil Value.string ByteArray.empty w), Nat.le_refl 0⟩
  · refine ⟨some ⟨g, 0, none⟩, cap, rfl, Kd.C_of_reads (d := ByteArray.empty) ⟨rfl, hb, fun _ => ⟨_, rfl, fun j hj => ?_⟩⟩, h1⟩
    refine h.cells (g := g) rfl j _ ?_
    rw [List.getElem?_map, List.getElem?_eq_getElem hj, List.getD_eq_getElem?_getD, List.getElem?_eq_getElem hj]
    rfl
def keysN (m : Names) : List ByteArray := m.map (·.1)
def GivesStrs (w : World) (l : List ByteArray) (e : Ending) (w' : World) : Prop := ∃ v, e = .returned v ∧ StrRow w' v l ∧ Below w.heap.size w w'
set_option maxHeartbeats 1000000 in
theorem list_calls (h : DskL B w L b S) (hS : Lim S) : Calls Try.prog 27 #[.pointer (some ⟨b, 0, none⟩)] w (GivesStrs w (keysN S.names)) := by
  obtain ⟨c0, c1, c2, c3, c4, c5, c6, c7, f⟩ := h.cells
  have hcount := hS.count
  have HSO := Lib.hid (sortedS_calls L.nb S.names.length (mapD S.names) (plainElem Try.prog 3) w h.names (by rw [size_mapD]; unfold maxLen; omega) (by rw [size_mapD]; omega))
  have HRI := Lib.hid h.names.rising
  clear c0 c1 c3 c4 c5 c6 c7 f hS h hcount
  go_enter Try.func27, Try.ntmps27
  go_wp2_with (first
    | (go_at_call 46; refine (keysS_calls _ _).mono ?_; rintro e w' ⟨rfl, rfl⟩)
    | (go_at_call 45; refine HSO.out.mono ?_; rintro e w' ⟨v, ss, rfl, hperm, hrow, hnil, hb⟩; have HP := Lib.hid hperm; have HR := Lib.hid hrow; have HBB := Lib.hid hb; clear hperm hrow hnil hb))
  go_ret
  refine ⟨v, rfl, ?_, ((Below.refl _ w).alloc (Nat.le_refl _) _).trans (HBB.out.mono (by simp))⟩
  have e1 := keys_sorted HRI.out HP.out
  have hl : ss.length = (keysN S.names).length := by have := HP.out.length_eq; rw [strKeys_mapD] at this; unfold keysN; rw [List.length_map] at this ⊢; exact this
  have e2 : (ss.mergeSort (fun x y => decide (x ≤ y))).map encStr = (keysN S.names).map Value.string := by rw [e1]; unfold keysN; rw [List.map_map, List.map_map]; rfl
  refine reads_of_own (base := (w.alloc (.cells #[.map (some L.nb)] 55)).heap.size) ?_
  rw [← e2, ← hl]
  exact HR.out
end Go.Proofs.Ytolbicncdookmaa.XDsk
