/- The disk's find in one contract; a text is a name. Conditions: a text's length, counts below a million. -/
import Derived.Test.YtolbicncdookmaaDskMoved

namespace Go.Proofs.Ytolbicncdookmaa.XDsk
open Go Go.RowKit Go.Maps Go.Proofs.YtolbicncdookmaaW.PrintWords Go.Proofs.YtolbicncdookmaaW.PrintLast Go.Proofs.YtolbicncdookmaaW.PrintMore
set_option linter.unusedVariables false
set_option linter.unusedSimpArgs false
variable {B b : Nat} {w w1 w2 : World} {L L1 : Lay} {S S1 : PD} {name : ByteArray} {i : Int}
theorem getN_mem (h : getN S.names name = some i) : ∃ p ∈ S.names, p.2 = i := by
  unfold getN at h
  cases e : S.names.find? (isK name) with
  | none => rw [e] at h; cases h
  | some p => rw [e] at h; injection h with h; exact ⟨p, List.mem_of_find?_eq_some e, h⟩
theorem DskL.idx (h : DskL B w L b S) (hS : Lim S) (hget : getN S.names name = some i) : 0 ≤ i ∧ i < (S.files.length : Int) ∧ ∃ p, L.fs[i.toNat]? = some p ∧ FileAt B w p (fileOf S i) ∧ S.files[i.toNat]? = some (fileOf S i) := by
  obtain ⟨q, hq, rfl⟩ := getN_mem hget
  obtain ⟨h0, h1⟩ := hS.names q hq
  have hlt : q.2.toNat < S.files.length := by omega
  obtain ⟨p, hp, hF⟩ := h.at_ hlt
  refine ⟨h0, h1, p, hp, ?_, ?_⟩
  · unfold fileOf; rw [List.getElem?_eq_getElem hlt]; exact hF
  · unfold fileOf; rw [List.getElem?_eq_getElem hlt]; rfl
/-- The pointer that find tells. -/
def findP (L : Lay) (S : PD) (name : ByteArray) : Value := if S.left = 0 then .pointer none else match getN S.names name with
  | none => .pointer none
  | some i => match L.fs[i.toNat]? with
    | none => .pointer none
    | some p => .pointer (some ⟨p.1, 0, none⟩)
theorem find_calls (h : DskL B w L b S) (hS : Lim S) (hs : name.size ≤ maxLen) :
    Calls Try.prog 35 #[.pointer (some ⟨b, 0, none⟩), .string name] w fun e w' => e = .returned (.tuple #[findP L S name, .int .i64 (findE S name)]) ∧ DskL B w' L b (beginS S) ∧ Upto (fun k => k = b) w w' := by
  by_cases h0 : S.left = 0
  · have e1 : findP L S name = .pointer none := by unfold findP; rw [if_pos h0]
    have e2 : findE S name = 11 := by unfold findE; rw [if_pos h0]
    rw [e1, e2]
    exact find_dead h hS h0
  · cases hg : getN S.names name with
    | none =>
      have e1 : findP L S name = .pointer none := by unfold findP; rw [if_neg h0, hg]
      have e2 : findE S name = 5 := by unfold findE; rw [if_neg h0, hg]
      rw [e1, e2]
      exact find_none h hS hs h0 hg
    | some i =>
      obtain ⟨hi, _, p, hp, _⟩ := h.idx hS hg
      have e1 : findP L S name = .pointer (some ⟨p.1, 0, none⟩) := by unfold findP; rw [if_neg h0, hg]; simp only [hp]
      have e2 : findE S name = 0 := by unfold findE; rw [if_neg h0, hg]
      rw [e1, e2]
      exact find_some h hS hs h0 hg hi hp
theorem findE_cases (S : PD) (name : ByteArray) : (findE S name = 11 ∧ S.left = 0) ∨ (findE S name = 5 ∧ S.left ≠ 0 ∧ getN S.names name = none) ∨ (findE S name = 0 ∧ S.left ≠ 0 ∧ ∃ i, getN S.names name = some i) := by
  unfold findE
  by_cases h0 : S.left = 0
  · rw [if_pos h0]; exact .inl ⟨rfl, h0⟩
  · rw [if_neg h0]
    cases hg : getN S.names name with
    | none => exact .inr (.inl ⟨rfl, h0, rfl⟩)
    | some i => exact .inr (.inr ⟨rfl, h0, i, rfl⟩)
theorem Went.of (h : DskL B w1 L1 b S) (hu : Upto (foot L b) w w1) (hf : ∀ k, foot L1 b k → foot L b k ∨ w.heap.size ≤ k) : Went B w L b S w1 := ⟨L1, h, hu, hf⟩
theorem Went.stay (h : DskL B w1 L b S) (hu : Upto (fun k => k = b) w w1) : Went B w L b S w1 := ⟨L, h, hu.mono (fun k hk => .inl hk), fun k hk => .inl hk⟩
theorem Went.after (h : Went B w1 L1 b S w2) (hu : Upto (foot L b) w w1) (hf : ∀ k, foot L1 b k → foot L b k ∨ w.heap.size ≤ k) : Went B w L b S w2 := by
  obtain ⟨L2, h2, hu2, hf2⟩ := h
  refine ⟨L2, h2, hu.trans hu2 hf, fun k hk => ?_⟩
  rcases hf2 k hk with hk | hk
  · exact hf k hk
  · right; have := hu.size; omega
theorem Went.below {w' : World} (h : Went B w L b S w1) (hb : Below w1.heap.size w1 w') : Went B w L b S w' := by
  obtain ⟨L2, h2, hu2, hf2⟩ := h
  exact ⟨L2, h2.below hb, hu2.then_below hb, hf2⟩
theorem Lim.begin (h : Lim S) (ho : S.ops + 1 ≤ 1000000) : Lim (beginS S) := by
  unfold beginS
  by_cases h0 : S.left = 0
  · rw [if_pos h0]; exact h
  · rw [if_neg h0]
    obtain ⟨l1, l2⟩ := h.left
    refine ⟨h.room, ?_, h.fail, ?_, h.files, h.moves, h.count, h.names, h.size⟩
    · have := h.ops; exact ⟨by show 0 ≤ S.ops + 1; omega, ho⟩
    · show -1 ≤ (if S.left > 0 then S.left - 1 else S.left) ∧ (if S.left > 0 then S.left - 1 else S.left) ≤ 9223372036854775807
      by_cases h1 : S.left > 0
      · rw [if_pos h1]; omega
      · rw [if_neg h1]; exact ⟨l1, l2⟩
end Go.Proofs.Ytolbicncdookmaa.XDsk
