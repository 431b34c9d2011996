/- The disk's find; the laws at the operations on a map of names. Conditions: a text's length, counts below a million. -/
import Derived.Test.YtolbicncdookmaaDskSmall
import Derived.StringKeys
namespace Go.Proofs.Ytolbicncdookmaa.XDsk
open Go Go.RowKit Go.Maps Go.Proofs.YtolbicncdookmaaW.PrintWords Go.Proofs.YtolbicncdookmaaW.PrintLast Go.Proofs.YtolbicncdookmaaW.PrintMore
attribute [local go_sem] max2_int min2_int max_two min_two
set_option linter.unusedVariables false
set_option linter.unusedSimpArgs false
theorem hkey_s {s : ByteArray} (hs : s.size ≤ maxLen) : keyOf Try.prog 9 (.string s) = some (.string s.data.toList) := WideMaps.keyOf_string_mk (P := Try.prog) Try.underlying9 hs
section
variable (w : World) {ops : Array Oper} {rest : List Oper} {o : Oper} {a : Act} {Q : Exit → Act → World → Prop} {g : Nat} {m : Names} {s : ByteArray} {i : Int}
theorem wp_get_some (hget : getN m s = some i) (hm : MapAt w g m) (hs : s.size ≤ maxLen) (hg : o.guard = none) (mo x : Operand) (hop : o.op = Op.lookup 55 mo x true) (e1 : a.eval mo = .map (some g)) (e2 : a.eval x = .string s)
    (hK : wpList Try.prog ops Q rest (a.put o.dst (.tuple #[.int .i64 i, .bool true])) w) : wpList Try.prog ops Q (o :: rest) a w := by
  refine wpList_lookup_own_ok_int w hg mo x 55 hop 9 3 .i64 law_s Try.underlying55 Try.underlying3 (zero_i _) g m.length (mapD m) e1 hm (.string s) _ e2 (hkey_s hs) fun c hat hwc => ?_
  rw [has_mapD, hget]
  rw [at_mapD, hget] at hat
  injection hat with hat
  injection hat with _ hat
  rw [← hat]
  exact hK
theorem wp_get_none (hget : getN m s = none) (hm : MapAt w g m) (hs : s.size ≤ maxLen) (hg : o.guard = none) (mo x : Operand) (hop : o.op = Op.lookup 55 mo x true) (e1 : a.eval mo = .map (some g)) (e2 : a.eval x = .string s)
    (hK : wpList Try.prog ops Q rest (a.put o.dst (.tuple #[.int .i64 0, .bool false])) w) : wpList Try.prog ops Q (o :: rest) a w := by
  refine wpList_lookup_own_ok_int w hg mo x 55 hop 9 3 .i64 law_s Try.underlying55 Try.underlying3 (zero_i _) g m.length (mapD m) e1 hm (.string s) _ e2 (hkey_s hs) fun c hat hwc => ?_
  rw [has_mapD, hget]
  rw [at_mapD, hget] at hat
  injection hat with hat
  injection hat with _ hat
  rw [← hat]
  exact hK
theorem wp_get1 (hget : getN m s = some i) (hm : MapAt w g m) (hs : s.size ≤ maxLen) (hg : o.guard = none) (mo x : Operand) (hop : o.op = Op.lookup 55 mo x false) (e1 : a.eval mo = .map (some g)) (e2 : a.eval x = .string s)
    (hK : wpList Try.prog ops Q rest (a.put o.dst (.int .i64 i)) w) : wpList Try.prog ops Q (o :: rest) a w := by
  refine wpList_lookup_own_int w hg mo x 55 hop 9 3 .i64 law_s Try.underlying55 Try.underlying3 (zero_i _) g m.length (mapD m) e1 hm (.string s) _ e2 (hkey_s hs) fun c hat hwc => ?_
  rw [at_mapD, hget] at hat
  injection hat with hat
  injection hat with _ hat
  rw [← hat]
  exact hK
/-- 'm[s] = i'. -/
theorem wp_put (hm : MapAt w g m) (hs : s.size ≤ maxLen) (hl : m.length < maxLen) (hi : (Lit.int .i64 i).wf = true) (hg : o.guard = none) (mo x v : Operand) (hop : o.op = Op.mapUpdate 55 mo x v) (e1 : a.eval mo = .map (some g)) (e2 : a.eval x = .string s) (e3 : a.eval v = .int .i64 i)
    (hK : ∀ w', MapAt w' g (putN m s i) → w.grownBy w' (some g) → wpList Try.prog ops Q rest (a.put o.dst undef) w') : wpList Try.prog ops Q (o :: rest) a w := by
  refine wpList_mapUpdate_own w hg mo x v 55 hop 9 3 law_s Try.underlying55 (plainElem Try.prog 3) g m.length (mapD m) e1 hm hl (.string s) (.int .i64 i) _ e2 e3 (hkey_s hs) _ [] (plainElem_int Try.underlying3 hi) fun w' h1 h2 => ?_
  rw [mapD_put] at h1
  exact hK w' (map_exact h1) h2
/-- 'delete(m, s)'. -/
theorem wp_del (hm : MapAt w g m) (hs : s.size ≤ maxLen) (hg : o.guard = none) (mo x : Operand) (hop : o.op = Op.call { callee := Callee.builtin Builtin.delete, args := #[mo, x], argTypes := #[55, 9] }) (e1 : a.eval mo = .map (some g)) (e2 : a.eval x = .string s)
    (hK : ∀ w', MapAt w' g (delN m s) → w.grownBy w' (some g) → wpList Try.prog ops Q rest (a.put o.dst (.tuple #[])) w') : wpList Try.prog ops Q (o :: rest) a w := by
  refine wpList_delete_own w hg mo x 55 9 hop 3 law_s Try.underlying55 (plainElem Try.prog 3) g m.length (mapD m) e1 hm (.string s) _ e2 (hkey_s hs) fun w' h1 h2 => ?_
  rw [mapD_del] at h1
  exact hK w' (map_exact h1) h2.grown
end
variable {B b : Nat} {w : World} {L : Lay} {S : PD} {name : ByteArray} {i : Int}
theorem begin_same (S : PD) : (beginS S).names = S.names ∧ (beginS S).files = S.files ∧ (beginS S).base = S.base ∧ (beginS S).moves = S.moves ∧ (beginS S).room = S.room ∧ (beginS S).fail = S.fail := by
  unfold beginS
  by_cases h : S.left = 0
  · rw [if_pos h]; exact ⟨rfl, rfl, rfl, rfl, rfl, rfl⟩
  · rw [if_neg h]; exact ⟨rfl, rfl, rfl, rfl, rfl, rfl⟩
theorem begin_on (h : S.left ≠ 0) : beginE S = 0 := by unfold beginE; rw [if_neg h]
set_option maxHeartbeats 1000000 in
theorem find_dead (h : DskL B w L b S) (hS : Lim S) (h0 : S.left = 0) :
    Calls Try.prog 35 #[.pointer (some ⟨b, 0, none⟩), .string name] w fun e w' => e = .returned (.tuple #[.pointer none, .int .i64 11]) ∧ DskL B w' L b (beginS S) ∧ Upto (fun k => k = b) w w' := by
  have hE := (begin_zero h0).2
  have HB := Lib.hid (begin_calls h hS)
  rw [hE] at HB
  clear h hS h0 hE
  go_enter Try.func35, Try.ntmps35
  go_wp2_with (go_at_call 39; refine HB.out.mono ?_; rintro e w' ⟨rfl, h1, hu⟩)
  go_ret2
  exact ⟨rfl, h1, hu⟩
set_option maxHeartbeats 1000000 in
theorem find_none (h : DskL B w L b S) (hS : Lim S) (hs : name.size ≤ maxLen) (h0 : S.left ≠ 0) (hget : getN S.names name = none) :
    Calls Try.prog 35 #[.pointer (some ⟨b, 0, none⟩), .string name] w fun e w' => e = .returned (.tuple #[.pointer none, .int .i64 5]) ∧ DskL B w' L b (beginS S) ∧ Upto (fun k => k = b) w w' := by
  have hE := begin_on h0
  have HB := Lib.hid (begin_calls h hS)
  rw [hE] at HB
  have hg : getN (beginS S).names name = none := by rw [(begin_same S).1]; exact hget
  have HG := Lib.hid hg
  clear h hS h0 hE hget hg
  go_enter Try.func35, Try.ntmps35
  go_wp2_with (first
    | (go_at_call 39; refine HB.out.mono ?_; rintro e w' ⟨rfl, h1, hu⟩; obtain ⟨c0, c1, c2, c3, c4, c5, c6, c7, f⟩ := h1.cells; clear c0 c1 c3 c4 c5 c6 c7)
    | (at_lookup; refine wp_get_none _ HG.out h1.names hs rfl _ _ rfl rfl rfl ?_))
  go_ret2
  exact ⟨rfl, h1, hu⟩
theorem add_at (g j : Nat) : (⟨g, 0, none⟩ : Addr).add j = ⟨g, j, none⟩ := by unfold Addr.add; split <;> simp_all
/-- The pointer of file i. -/
theorem DskL.ptr (h : DskL B w L b S) {p : Nat × Value} (hi : 0 ≤ i) (hp : L.fs[i.toNat]? = some p) : ∃ g cap, L.vf = .slice (some ⟨g, 0, none⟩) L.fs.length cap ∧ w.cell? ⟨g, i.toNat, none⟩ = some (.pointer (some ⟨p.1, 0, none⟩)) ∧ i < (L.fs.length : Int) := by
  have hlt : i.toNat < L.fs.length := (List.getElem?_eq_some_iff.1 hp).1
  rcases h.files.2 with ⟨_, h0⟩ | ⟨g, cap, cur, hv, _⟩
  · omega
  · refine ⟨g, cap, hv, by rw [← add_at]; exact h.files.cells (g := g) (by rw [hv]; rfl) i.toNat _ (by unfold ptrs; rw [List.getElem?_map, hp]; rfl), by omega⟩
set_option maxHeartbeats 1000000 in
theorem find_some (h : DskL B w L b S) (hS : Lim S) (hs : name.size ≤ maxLen) (h0 : S.left ≠ 0) (hget : getN S.names name = some i) {p : Nat × Value} (hi : 0 ≤ i) (hp : L.fs[i.toNat]? = some p) :
    Calls Try.prog 35 #[.pointer (some ⟨b, 0, none⟩), .string name] w fun e w' => e = .returned (.tuple #[.pointer (some ⟨p.1, 0, none⟩), .int .i64 0]) ∧ DskL B w' L b (beginS S) ∧ Upto (fun k => k = b) w w' := by
  have hE := begin_on h0
  have HB := Lib.hid (begin_calls h hS)
  rw [hE] at HB
  have hg : getN (beginS S).names name = some i := by rw [(begin_same S).1]; exact hget
  have HG := Lib.hid hg
  have HP := Lib.hid hp
  clear h hS h0 hE hget hg hp
  go_enter Try.func35, Try.ntmps35
  go_wp2_with (first
    | (go_at_call 39; refine HB.out.mono ?_; rintro e w' ⟨rfl, h1, hu⟩; obtain ⟨c0, c1, c2, c3, c4, c5, c6, c7, f⟩ := h1.cells; obtain ⟨g, cap, hv, hc, hlt⟩ := h1.ptr hi HP.out; rw [hv] at c1; have HV := Lib.hid hv; clear c0 c3 c4 c5 c6 c7 hv)
    | (at_lookup; refine wp_get_some _ HG.out h1.names hs rfl _ _ rfl rfl rfl ?_))
  go_ret2
  exact ⟨rfl, h1, hu⟩
end Go.Proofs.Ytolbicncdookmaa.XDsk
