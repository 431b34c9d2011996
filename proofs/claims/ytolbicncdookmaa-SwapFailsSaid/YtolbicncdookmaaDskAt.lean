/- A file behind so many moments. Conditions: what was cut could be cut; texts' lengths. -/
import Derived.Test.YtolbicncdookmaaDskNew

namespace Go.Proofs.Ytolbicncdookmaa.XDsk
open Go Go.RowKit Go.Maps Go.Sort Go.Shelf Go.Proofs.YtolbicncdookmaaW.PrintWords Go.Proofs.YtolbicncdookmaaW.PrintLast Go.Proofs.YtolbicncdookmaaW.PrintMore Go.Proofs.Ytolbicncdookmaa.Num
attribute [local go_sem] max2_int min2_int max_two min_two
set_option linter.unusedVariables false
set_option linter.unusedSimpArgs false
variable {B B' b : Nat} {w w1 w2 : World} {L L1 : Lay} {S S1 : PD}
theorem chV_len : ∀ ch : List (ByteArray × Int), (chV ch).length = ch.length * 2
  | [] => rfl
  | p :: r => by
    have := chV_len r
    unfold chV at this ⊢
    rw [List.flatMap_cons, List.length_append, this]; simp; omega
theorem chV_get : ∀ (ch : List (ByteArray × Int)) (k : Nat) (hk : k < ch.length), (chV ch)[k * 2]? = some (.string ch[k].1) ∧ (chV ch)[k * 2 + 1]? = some (.int .i64 ch[k].2)
  | p :: r, 0, _ => ⟨rfl, rfl⟩
  | p :: r, k + 1, hk => by
    obtain ⟨h1, h2⟩ := chV_get r k (by simpa using hk)
    unfold chV at h1 h2 ⊢
    rw [List.flatMap_cons, show (k + 1) * 2 = k * 2 + 1 + 1 by omega]
    exact ⟨h1, h2⟩
/-- A file's row of changes, open. -/
theorem FileAt.ch {p : Nat × Value} {f : PF} (h : FileAt B w p f) : ∃ A cap, p.2 = .slice A f.ch.length cap ∧ ∀ (k : Nat) (hk : k < f.ch.length), ∃ g, A = some ⟨g, 0, none⟩ ∧ g < w.heap.size ∧ w.cell? ⟨g, k * 2, none⟩ = some (.string f.ch[k].1) ∧ w.cell? ⟨g, k * 2 + 1, none⟩ = some (.int .i64 f.ch[k].2) := by
  rcases h.row.2 with ⟨e, h0⟩ | ⟨g, cap, cur, e, hb, hg, _⟩
  · exact ⟨none, 0, by rw [h0]; exact e, fun k hk => by omega⟩
  · refine ⟨some ⟨g, 0, none⟩, cap, e, fun k hk => ⟨g, rfl, blk_lt hg, ?_, ?_⟩⟩
    · rw [← add_at]; exact h.row.cells (g := g) (by rw [e]; rfl) _ _ (chV_get f.ch k hk).1
    · rw [← add_at]; exact h.row.cells (g := g) (by rw [e]; rfl) _ _ (chV_get f.ch k hk).2
def AtR (w : World) (f : PF) (m : Int) (k : Nat) (m1 : Int) (s : ByteArray) (wr : World) : Prop :=
  k ≤ f.ch.length ∧ atL (f.ch.drop k) m1 s = atF f m ∧ (m1 ≤ 0 ∨ chOk (f.ch.drop k) s.size) ∧ s.size ≤ 1000000 * (k + 1) ∧ (-9223372036854775808 ≤ m1 ∧ m1 < 9223372036854775808) ∧ Below w.heap.size w wr
theorem atL_stop {t : ByteArray} {c m : Int} {r : List (ByteArray × Int)} {s : ByteArray} (h : m ≤ 0) : atL ((t, c) :: r) m s = s := by unfold atL; rw [if_pos h]
theorem atL_cut {t : ByteArray} {c m : Int} {r : List (ByteArray × Int)} {s : ByteArray} (h : ¬ m ≤ 0) (hc : c ≠ -1) : atL ((t, c) :: r) m s = atL r (m - 1) (s.extract 0 c.toNat) := by rw [atL, if_neg h, if_neg hc]
theorem atL_add {t : ByteArray} {m : Int} {r : List (ByteArray × Int)} {s : ByteArray} (h : ¬ m ≤ 0) : atL ((t, -1) :: r) m s = atL r (m - min m (t.size : Int)) (s ++ t.extract 0 (min m (t.size : Int)).toNat) := by rw [atL, if_neg h, if_pos rfl]
set_option maxHeartbeats 4000000 in
set_option maxRecDepth 100000 in
theorem at_calls {p : Nat × Value} {f : PF} {m : Int} (h : FileAt B w p f) (hok : chOk f.ch f.base.size) (hb : f.base.size ≤ 1000000) (hl : f.ch.length ≤ 1000000) (ht : ∀ q ∈ f.ch, q.1.size ≤ 1000000) (hm : -9223372036854775808 ≤ m ∧ m < 9223372036854775808) :
    Calls Try.prog 44 #[.pointer (some ⟨p.1, 0, none⟩), .int .i64 m] w fun e w' => e = .returned (.string (atF f m)) ∧ Below w.heap.size w w' := by
  obtain ⟨A, cap, hA, hcell⟩ := h.ch
  have k0 : w.cell? ⟨p.1, 0, none⟩ = some (.string f.base) := (blk_cell h.blk 0).trans rfl
  have k2 : w.cell? ⟨p.1, 2, none⟩ = some (.slice A f.ch.length cap) := by rw [← hA]; exact (blk_cell h.blk 2).trans rfl
  obtain ⟨n, hn⟩ : ∃ n, f.ch.length = n := ⟨_, rfl⟩
  rw [hn] at k2
  have HN := Lib.hid hn
  have HC := Lib.hid hcell
  have HT := Lib.hid ht
  have HOK := Lib.hid hok
  have HB := Lib.hid hb
  have HL := Lib.hid hl
  obtain ⟨hm1, hm2⟩ := hm
  have HM := Lib.hid (And.intro hm1 hm2)
  rw [hn] at hl
  clear h hok hb ht hA hcell hn
  go_enter Try.func44, Try.ntmps44
  go_wp2
  go_loopw [1, 5, 18] (fun v1 v5 v18 wr => ∃ (m1 : Int) (s : ByteArray) (k : Nat), v1 = .int .i64 m1 ∧ v5 = .string s ∧ v18 = .int .i64 (k : Int) ∧ Aside0 (AtR w f m k m1 s wr))
    (fun _ _ v18 _ => n - (intOf v18).toNat)
  case atStart =>
    exact ⟨m, f.base, 0, rfl, rfl, rfl, ⟨Nat.zero_le _, rfl, .inr HOK.out, by have := HB.out; omega, HM.out, Below.refl _ _⟩⟩
  case round =>
    obtain ⟨m1, s, k, rfl, rfl, rfl, HR⟩ := hrel
    clear k0 k2
    by_cases hlt : k < n
    · have hltc : k < f.ch.length := by rw [HN.out]; exact hlt
      obtain ⟨g, rfl, hgl, x0, x1⟩ := HC.out k hltc
      have hbl := HR.out.2.2.2.2.2
      obtain ⟨⟨t, c⟩, htc⟩ : ∃ q, f.ch[k] = q := ⟨_, rfl⟩
      rw [htc] at x0 x1
      have hdrop : f.ch.drop k = (t, c) :: f.ch.drop (k + 1) := by rw [← htc]; exact List.drop_eq_getElem_cons hltc
      have hts : t.size ≤ 1000000 := HT.out (t, c) (by rw [← htc]; exact List.getElem_mem hltc)
      have y0 : wr.cell? ⟨g, k * 2, none⟩ = some (.string t) := (hbl.cell (p := ⟨g, k * 2, none⟩) hgl).trans x0
      have y1 : wr.cell? ⟨g, k * 2 + 1, none⟩ = some (.int .i64 c) := (hbl.cell (p := ⟨g, k * 2 + 1, none⟩) hgl).trans x1
      have hs := HR.out.2.2.2.1
      obtain ⟨hw1, hw2⟩ := HR.out.2.2.2.2.1
      have HD := Lib.hid hdrop
      have HBL := Lib.hid hbl
      have HS := Lib.hid hs
      clear x0 x1 hgl hbl hdrop htc hltc hs
      by_cases hz : m1 ≤ 0
      · have hzd : decide (m1 ≤ 0) = true := decide_eq_true hz
        go_wp2
        go_ret
        have e := HR.out.2.1
        rw [HD.out, atL_stop hz] at e
        exact ⟨by rw [← e]; rfl, HBL.out.alloc HBL.out.size _⟩
      · have hzd : decide (m1 ≤ 0) = false := decide_eq_false hz
        have hpos : 1 ≤ m1 := by omega
        by_cases hc : c = -1
        · subst hc
          by_cases hmin : m1 ≤ (t.size : Int)
          · have hbig : (9223372036854775807 < s.size + m1.toNat) = False := eq_false (by have := HS.out; omega)
            go_wp2
            go_roundw
            case rel =>
              refine ⟨_, _, k + 1, rfl, rfl, by go_num, ⟨by rw [HN.out]; omega, ?_, ?_, ?_, ?_, HBL.out.alloc HBL.out.size _⟩⟩
              · have e := HR.out.2.1
                rw [HD.out, atL_add hz, Int.min_eq_left hmin, Int.sub_self] at e
                exact e
              · left; omega
              · have := HS.out; rw [ByteArray.size_append, ByteArray.size_extract]; omega
              · omega
            case measure => simp [intOf]; omega
          · have hmin2 : (t.size : Int) < m1 := by omega
            have hbig : (9223372036854775807 < s.size + t.size) = False := eq_false (by have := HS.out; omega)
            go_wp2
            go_roundw
            case rel =>
              refine ⟨_, _, k + 1, rfl, rfl, by go_num, ⟨by rw [HN.out]; omega, ?_, ?_, ?_, ?_, HBL.out.alloc HBL.out.size _⟩⟩
              · have e := HR.out.2.1
                rw [HD.out, atL_add hz, Int.min_eq_right (by omega), Int.toNat_natCast, ByteArray.extract_zero_size] at e
                exact e
              · have e := HR.out.2.2.1
                rw [HD.out] at e
                rcases e with e | e
                · omega
                · right
                  unfold chOk at e
                  rw [if_pos rfl] at e
                  rw [ByteArray.size_append]
                  exact e
              · have := HS.out; rw [ByteArray.size_append]; omega
              · omega
            case measure => simp [intOf]; omega
        · have hcb : (0 ≤ c ∧ c ≤ (s.size : Int)) ∧ chOk (f.ch.drop (k + 1)) c.toNat := by
            have e := HR.out.2.2.1
            rw [HD.out] at e
            rcases e with e | e
            · omega
            · unfold chOk at e
              rw [if_neg hc] at e
              exact e
          obtain ⟨⟨hc0, hc1⟩, hc2⟩ := hcb
          have hcq : (c == -1) = false := beq_eq_false_iff_ne.2 hc
          have hcq2 : (c != -1) = true := by simpa using hc
          have HC2 := Lib.hid hc2
          have HCN := Lib.hid hc
          clear hc2 hc
          go_wp2
          go_roundw
          case rel =>
            refine ⟨_, _, k + 1, rfl, rfl, by go_num, ⟨by rw [HN.out]; omega, ?_, ?_, ?_, ?_, HBL.out.alloc HBL.out.size _⟩⟩
            · have e := HR.out.2.1
              rw [HD.out, atL_cut hz HCN.out] at e
              exact e
            · right
              rw [ByteArray.size_extract, Nat.sub_zero, Nat.min_eq_left (by omega)]
              exact HC2.out
            · have := HS.out; rw [ByteArray.size_extract]; omega
            · omega
          case measure => simp [intOf]; omega
    · go_wp2
      go_ret
      have e := HR.out.2.1
      rw [List.drop_eq_nil_of_le (by rw [HN.out]; omega)] at e
      exact ⟨by rw [← e]; rfl, HR.out.2.2.2.2.2⟩
end Go.Proofs.Ytolbicncdookmaa.XDsk
