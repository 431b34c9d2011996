/- What the document's Take answers for bytes: the same as sample.Take. Conditions: a text as long as texts are; rounds enough. -/
import Derived.Test.YthaegbiblblccaaGreatDoorSmpGlue
import Derived.Test.YthaegbiblblccaaGreatDoorSmpNumT
import Derived.Test.YthaegbiblblccaaGreatDoorGRefPut
import Derived.Test.YthaegbiblblccaaGreatDoorXEntP3
namespace Go.Proofs.YthaegbiblblccaaGreatDoor.Smp
open Go.RowKit Go.Proofs.YthaegbiblblccaaGreatDoorW.PrintWords Go.Proofs.YthaegbiblblccaaGreatDoorW.PrintMore Go.Proofs.YthaegbiblblccaaGreatDoor.XEnt Go.Proofs.YthaegbiblblccaaGreatDoor.Num
set_option linter.unusedVariables false
set_option linter.unusedSimpArgs false
theorem takeIP_none {l : List UInt8} (h : dec 0 l = none) : takeIP l = (0, bs [], 2) := by unfold takeIP; rw [h]
theorem takeIP_some {l r : List UInt8} {n : Nat} (h : dec 0 l = some (n, r)) : takeIP l = (zag n, bs r, 0) := by unfold takeIP; rw [h]
theorem takeP_some {l r : List UInt8} {n : Nat} (h : dec 0 l = some (n, r)) : takeP l = ((n : Int), bs r, 0) := by unfold takeP; rw [h]
theorem endS_0 (p s v : Int) (o : List S) (q : List UInt8) : endS 0 p s v o q = if chk o = 0 then (o, bs q, 0) else ([], bs [], 2) := by unfold endS; simp only [pairs, List.append_nil]
theorem rtake4_l0 (n : Nat) (hn : n ≤ 20) : ∀ (m k i : Nat) (at' by' v : Int) (o : List S) (q : List UInt8), i + m = n → m + 1100 ≤ k → q.length ≤ 140737488351232 → o.length ≤ 1000 →
    0 ≤ at' → at' < 18446744073709551616 → 0 ≤ by' → by' < 18446744073709551616 → o.length = i →
    postroomref4_Take.l0 k (n : Int) (bs q) at' v o by' (i : Int) = some (endS m (wrap64 at') (wrap64 by') v o q)
  | m, k, i, at', by', v, o, q, hi, hk, hq, ho, a0, a1, b0, b1, hoi => by
    obtain ⟨k, rfl⟩ : ∃ m, k = m + 1 := ⟨k - 1, by omega⟩
    simp only [postroomref4_Take.l0]
    match m, hi, hk with
    | 0, hi, hk =>
      rw [if_neg (by omega), rcheck_f o k (by omega), bsome, endS_0]
      by_cases h : chk o = 0
      · rw [if_pos h, if_pos h]
      · rw [if_neg h, if_neg h]; rfl
    | m + 1, hi, hk =>
      rw [if_pos (by omega), rtakeInt_f hq (by omega), bsome]
      rcases hd : dec 0 q with _ | ⟨a, q1⟩
      · rw [takeIP_none hd, rtakeInt_f (l := []) (by simp) (by omega), bsome, if_neg (by decide), endS_none1 m _ _ _ _ _ hd]; rfl
      · have hl1 := dec_len hd
        rw [takeIP_some hd, rtakeInt_f (l := q1) (by omega) (by omega), bsome, if_pos rfl]
        rcases hd2 : dec 0 q1 with _ | ⟨b, q2⟩
        · rw [takeIP_none hd2, if_neg (by decide), endS_none2 m _ _ _ _ _ _ a hd hd2]; rfl
        · have hl2 := dec_len hd2
          have g1 := zag_rng (dec_some hd).2
          rw [takeIP_some hd2, if_pos rfl, if_pos (by omega), endS_step m _ _ _ _ _ _ _ a b hd hd2]
          have e1 : wrap64 (IntKind.u64.wrap (by' + IntKind.u64.wrap (zag a))) = wrap64 (wrap64 by' + zag a) := by
            rw [w64_u64]; unfold wrap64 IntKind.wrap; simp [IntKind.signed, IntKind.bits]; omega
          have e2 : wrap64 (IntKind.u64.wrap (at' + IntKind.u64.wrap (by' + IntKind.u64.wrap (zag a)))) = wrap64 (wrap64 at' + wrap64 (wrap64 by' + zag a)) := by
            rw [← e1]; unfold wrap64 IntKind.wrap; simp [IntKind.signed, IntKind.bits]; omega
          have u0 : ∀ z, 0 ≤ IntKind.u64.wrap z ∧ IntKind.u64.wrap z < 18446744073709551616 := by
            intro z; unfold IntKind.wrap; simp [IntKind.signed, IntKind.bits]; omega
          have e3 : IntKind.u64.wrap (wrap64 (wrap64 at' + wrap64 (wrap64 by' + zag a))) = IntKind.u64.wrap (at' + IntKind.u64.wrap (by' + IntKind.u64.wrap (zag a))) := by
            rw [← e2]; exact u64_w64 (u0 _).1 (u0 _).2
          rw [u64_id (x := (i : Int) + 1) (by omega) (by omega), show ((i : Int) + 1) = ((i + 1 : Nat) : Int) by omega]
          rw [rtake4_l0 n hn m k (i + 1) _ _ _ _ q2 (by omega) (by omega) (by omega) (by simp; omega) (u0 _).1 (u0 _).2 (u0 _).1 (u0 _).2 (by simp [hoi])]
          rw [e1, e2, e3]
theorem rtake4_f {l : List UInt8} {k : Nat} (hl : l.length ≤ 140737488351232) (hk : 1200 ≤ k) : postroomref4_Take.f k (bs l) = some (takeS l) := by
  obtain ⟨k, rfl⟩ : ∃ m, k = m + 1 := ⟨k - 1, by omega⟩
  obtain ⟨k, rfl⟩ : ∃ m, k = m + 1 := ⟨k - 1, by omega⟩
  have hT := takeS_eq l
  unfold postroomref4_Take.f
  rw [rtake_f hl (by omega), bsome]
  rcases hd : dec 0 l with _ | ⟨n, r⟩
  · simp only [hd] at hT
    rw [takeP_none hd, if_neg (by decide), hT]
    simp only [postroomref4_Take.j0]
    rfl
  · simp only [hd] at hT
    have hl1 := dec_len hd
    rw [takeP_some hd, if_pos rfl]
    simp only
    by_cases h0 : n = 0
    · rw [if_pos (by omega : n = 0 ∨ 20 < n)] at hT
      rw [if_pos (by omega), hT]
      simp only [postroomref4_Take.j0]
      rfl
    · rw [if_neg (by omega)]
      simp only [postroomref4_Take.j0]
      by_cases h20 : 20 < n
      · rw [if_pos (by omega : n = 0 ∨ 20 < n)] at hT
        rw [if_pos (decide_eq_true (by omega)), hT]
        rfl
      · rw [if_neg (by omega : ¬ (n = 0 ∨ 20 < n))] at hT
        rw [if_neg (by rw [decide_eq_true_eq]; omega), rtake_f (by omega) (by omega), bsome]
        rcases hd2 : dec 0 r with _ | ⟨a, q⟩
        · simp only [hd2] at hT
          rw [takeP_none hd2, rtakeInt_f (l := []) (by simp) (by omega), bsome, if_neg (by decide), hT]
          simp only [postroomref4_Take.j1]
          rfl
        · simp only [hd2] at hT
          have hl2 := dec_len hd2
          rw [takeP_some hd2, rtakeInt_f (l := q) (by omega) (by omega), bsome, if_pos rfl]
          simp only [postroomref4_Take.j1]
          rcases hd3 : dec 0 q with _ | ⟨v, t⟩
          · simp only [hd3] at hT
            rw [takeIP_none hd3, if_pos (by decide), hT]
            rfl
          · simp only [hd3] at hT
            have hl3 := dec_len hd3
            have g2 := (dec_some hd2).2
            rw [takeIP_some hd3, if_neg (show ¬ (((0 : Int) != 0) = true) by decide), hT]
            have := rtake4_l0 n (by omega) (n - 1) k 1 (a : Int) 0 (zag v) [⟨(a : Int), zag v⟩] t (by omega) (by omega) (by omega) (by simp) (by omega) (by omega) (by omega) (by omega) rfl
            rw [show wrap64 0 = 0 from w64_id (by omega) (by omega)] at this
            exact this
end Go.Proofs.YthaegbiblblccaaGreatDoor.Smp
