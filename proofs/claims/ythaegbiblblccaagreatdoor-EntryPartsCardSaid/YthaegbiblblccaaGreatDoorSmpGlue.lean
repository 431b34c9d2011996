/- What the printed functions of chapter 4 answer, in the plain law's words. Conditions: rounds enough. -/
import Derived.Test.YthaegbiblblccaaGreatDoorSmpLaw
import Derived.Test.YthaegbiblblccaaGreatDoorGSamplePut
import Derived.Test.YthaegbiblblccaaGreatDoorGSampleTake
import Derived.Test.YthaegbiblblccaaGreatDoorSmpNumB
import Derived.Test.YthaegbiblblccaaGreatDoorXEntP3
import Derived.Test.YthaegbiblblccaaGreatDoorXEntP1
namespace Go.Proofs.YthaegbiblblccaaGreatDoor.Smp
open Go.RowKit Go.Proofs.YthaegbiblblccaaGreatDoorW.PrintWords Go.Proofs.YthaegbiblblccaaGreatDoorW.PrintMore Go.Proofs.YthaegbiblblccaaGreatDoor.XEnt Go.Proofs.YthaegbiblblccaaGreatDoor.Num
set_option linter.unusedVariables false
set_option linter.unusedSimpArgs false

theorem sput_f {l : List S} (hw : ∀ x ∈ l, WF x) : sample_Put.f l = some (putS l) := by unfold sample_Put.f; rw [if_pos hw]
theorem put_ok {l : List S} (hw : ∀ x ∈ l, WF x) (hc : chk l = 0) : sample_Put.f l = some (bs (bytes l), 0) := by rw [sput_f hw]; unfold putS; rw [if_pos hc]
theorem app_get (l : List S) (i : Nat) (h : i < l.length) : l.drop i = l[i] :: l.drop (i + 1) := List.drop_eq_getElem_cons h
theorem same_l0 (l m : List S) (hl : l.length ≤ 1000000) (hm : l.length = m.length) : ∀ (d k i : Nat), i + d = l.length → d + 1 ≤ k → postroomref4_Same.l0 k l m (i : Int) = some (decide (l.drop i = m.drop i))
  | d, k, i, hi, hk => by
    obtain ⟨k, rfl⟩ : ∃ m, k = m + 1 := ⟨k - 1, by omega⟩
    simp only [postroomref4_Same.l0]
    match d, hi, hk with
    | 0, hi, _ =>
      have e : l.drop i = [] := List.drop_eq_nil_of_le (by omega)
      have e2 : m.drop i = [] := List.drop_eq_nil_of_le (by omega)
      rw [if_neg (by omega), e, e2]
      simp
    | d + 1, hi, hk =>
      have h1 : i < l.length := by omega
      have h2 : i < m.length := by omega
      rw [if_pos (by omega), if_pos (by omega), if_pos (by omega), rd_S l i h1, rd_S m i h2, app_get l i h1, app_get m i h2]
      by_cases h : l[i] = m[i]
      · have ih := same_l0 l m hl hm d k (i + 1) (by omega) (by omega)
        rw [h]
        simp only [beq_self_eq_true, Bool.not_true, Bool.or_self, Bool.false_eq_true, if_false]
        rw [w64_id (by omega) (by omega), show ((i : Int) + 1) = ((i + 1 : Nat) : Int) by omega, ih]
        exact congrArg some (decide_eq_decide.2 ⟨fun e => by rw [e], fun e => (List.cons.inj e).2⟩)
      · have hne : ¬ (l[i] :: l.drop (i + 1) = m[i] :: m.drop (i + 1)) := fun e => h (List.cons.inj e).1
        rw [decide_eq_false hne]
        by_cases h3 : l[i].f0 = m[i].f0
        · have h4 : ¬ l[i].f1 = m[i].f1 := fun h4 => h (by cases e1 : l[i]; cases e2 : m[i]; rw [e1, e2] at h3 h4; simp at h3 h4; subst h3; subst h4; rfl)
          rw [if_pos]
          simp [h4]
        · rw [if_pos]
          simp [h3]
theorem same_f {l m : List S} {k : Nat} (hl : l.length ≤ 1000000) (hk : l.length + 1 ≤ k) : postroomref4_Same.f k l m = some (decide (l = m)) := by
  unfold postroomref4_Same.f
  by_cases h : l.length = m.length
  · rw [if_pos (by omega)]
    have := same_l0 l m hl h l.length k 0 (by omega) hk
    simpa using this
  · rw [if_neg (by omega), decide_eq_false (fun e => h (by rw [e]))]
/-- Those of some time. -/
def btw (l : List S) (a b : Int) : List S := l.filter fun x => decide (a ≤ x.f0) && decide (x.f0 ≤ b)
theorem btw_in {x : S} {r : List S} {a b : Int} (h1 : a ≤ x.f0) (h2 : x.f0 ≤ b) : btw (x :: r) a b = x :: btw r a b := by
  unfold btw; rw [List.filter_cons, if_pos]; rw [decide_eq_true h1, decide_eq_true h2]; rfl
theorem btw_lo {x : S} {r : List S} {a b : Int} (h1 : ¬ a ≤ x.f0) : btw (x :: r) a b = btw r a b := by
  unfold btw; rw [List.filter_cons, if_neg]; rw [decide_eq_false h1]; simp
theorem btw_hi {x : S} {r : List S} {a b : Int} (h1 : ¬ x.f0 ≤ b) : btw (x :: r) a b = btw r a b := by
  unfold btw; rw [List.filter_cons, if_neg]; rw [decide_eq_false h1]; simp
/-- Which of n. -/
def pk (a n : Int) : Int := if a < 0 then Int.tmod (wrap64 (-(wrap64 (a + 1)))) n else Int.tmod a n
theorem pick_f (a n : Int) (hn : n ≠ 0) : postroomlaw5_pick.f a n = some (pk a n) := by
  unfold postroomlaw5_pick.f pk
  by_cases h : a < 0
  · rw [if_pos h, if_neg hn, if_pos h]
  · rw [if_neg h, if_neg hn, if_neg h]
theorem pk_rng {a n : Int} (hn : 0 < n) (ha : -9223372036854775808 ≤ a ∧ a < 9223372036854775808) : 0 ≤ pk a n ∧ pk a n < n := by
  have key : ∀ z : Int, 0 ≤ z → 0 ≤ Int.tmod z n ∧ Int.tmod z n < n := fun z hz => ⟨Int.tmod_nonneg _ hz, Int.tmod_lt_of_pos _ hn⟩
  unfold pk
  by_cases h : a < 0
  · rw [if_pos h]
    exact key _ (by rw [show wrap64 (a + 1) = a + 1 from w64_id (by omega) (by omega), w64_id (by omega) (by omega)]; omega)
  · rw [if_neg h]
    exact key _ (by omega)
/-- Rows made of numbers: each is later than the one ahead. -/
def made : Int → List Int → List S
  | _, [] => []
  | a, x :: l => ⟨a + 1 + pk x 100, x⟩ :: made (a + 1 + pk x 100) l
def smp (a : Int) (l : List Int) : List S := ⟨a % 1099511627776, a % 1099511627776 - 5⟩ :: made (a % 1099511627776) (l.take 19)
theorem rd_int (l : List Int) (i : Nat) (h : i < l.length) : rd l (i : Int) = l[i] := by
  unfold rd
  rw [Int.toNat_natCast, List.getD_eq_getElem?_getD, List.getElem?_eq_getElem h]
  rfl
theorem made_len : ∀ (l : List Int) (a : Int), (made a l).length = l.length
  | [], _ => rfl
  | x :: l, a => by simp [made, made_len l]
theorem samplesOf_l0 (l : List Int) (hl : l.length ≤ 140737488351232) (hw : ∀ x ∈ l, (Lit.int .i64 x).wf = true) : ∀ (d k i : Nat) (now : Int) (acc : List S), i + d = min l.length 19 → d + 1 ≤ k → acc.length ≤ i + 1 → 0 ≤ now → now < 1099511627776 + 101 * i →
    postroomlaw5_samplesOf.l0 k l now acc (i : Int) = some (acc ++ made now ((l.take 19).drop i))
  | d, k, i, now, acc, hi, hk, ha, hn0, hn1 => by
    obtain ⟨k, rfl⟩ : ∃ m, k = m + 1 := ⟨k - 1, by omega⟩
    simp only [postroomlaw5_samplesOf.l0]
    match d, hi, hk with
    | 0, hi, _ =>
      have e : (l.take 19).drop i = [] := List.drop_eq_nil_of_le (by simp; omega)
      rw [e]
      by_cases h : (i : Int) < (l.length : Int)
      · rw [if_pos h, if_neg (by omega)]; simp [made]
      · rw [if_neg h]; simp [made]
    | d + 1, hi, hk =>
      have h1 : i < l.length := by omega
      have h2 : i < (l.take 19).length := by simp; omega
      have e : (l.take 19).drop i = l[i] :: (l.take 19).drop (i + 1) := by rw [List.drop_eq_getElem_cons h2]; simp
      have hx := wf_i64 (hw l[i] (List.getElem_mem h1))
      have hp := pk_rng (n := 100) (by omega) hx
      rw [if_pos (by omega), if_pos (by omega), if_pos (by omega), rd_int l i h1, pick_f _ _ (by omega), bsome, if_pos (by omega)]
      rw [u64_id (x := now + 1) (by omega) (by omega), u64_id (x := pk l[i] 100) (by omega) (by omega), u64_id (x := now + 1 + pk l[i] 100) (by omega) (by omega), w64_id (by omega) (by omega), show ((i : Int) + 1) = ((i + 1 : Nat) : Int) by omega]
      rw [samplesOf_l0 l hl hw d k (i + 1) _ _ (by omega) (by omega) (by simp; omega) (by omega) (by omega), e]
      simp [made]
theorem samplesOf_f {a : Int} {l : List Int} {k : Nat} (ha : (Lit.int .u64 a).wf = true) (hl : l.length ≤ 140737488351232) (hw : ∀ x ∈ l, (Lit.int .i64 x).wf = true) (hk : 20 ≤ k) : postroomlaw5_samplesOf.f k a l = some (smp a l) := by
  have h0 := wf_u64 ha
  unfold postroomlaw5_samplesOf.f
  have e : Int.tmod a 1099511627776 = a % 1099511627776 := Int.tmod_eq_emod_of_nonneg h0.1
  rw [e, show wrap64 (a % 1099511627776) = a % 1099511627776 from w64_id (by omega) (by omega), w64_id (by omega) (by omega)]
  have := samplesOf_l0 l hl hw (min l.length 19) k 0 (a % 1099511627776) [⟨a % 1099511627776, a % 1099511627776 - 5⟩] (by omega) (by omega) (by simp) (by omega) (by omega)
  simpa [smp] using this
theorem made_ok : ∀ (l : List Int) (x : S), (∀ y ∈ l, -9223372036854775808 ≤ y ∧ y < 9223372036854775808) → rises x (made x.f0 l) = true
  | [], x, _ => rfl
  | y :: l, x, h => by
    have hp := pk_rng (n := 100) (by omega) (h y (by simp))
    simp only [made, rises]
    rw [decide_eq_true (by omega), Bool.true_and]
    exact made_ok l ⟨x.f0 + 1 + pk y 100, y⟩ (fun z hz => h z (by simp [hz]))
theorem made_wf : ∀ (l : List Int) (a : Int), 0 ≤ a → a + 101 * l.length < 18446744073709551616 → (∀ y ∈ l, -9223372036854775808 ≤ y ∧ y < 9223372036854775808) → ∀ x ∈ made a l, WF x ∧ x.f0 < 18446744073709551615
  | [], a, _, _, _, x, hx => by cases hx
  | y :: l, a, h0, h1, h, x, hx => by
    have hy := h y (by simp)
    have hp := pk_rng (n := 100) (by omega) hy
    simp only [List.length_cons] at h1
    rcases List.mem_cons.1 hx with rfl | hx
    · refine ⟨⟨?_, ?_⟩, by simp; omega⟩ <;> simp [Lit.wf, IntKind.min, IntKind.max, IntKind.signed, IntKind.bits] <;> omega
    · exact made_wf l (a + 1 + pk y 100) (by omega) (by omega) (fun z hz => h z (by simp [hz])) x hx
theorem take_wf {l : List Int} (hw : ∀ x ∈ l, (Lit.int .i64 x).wf = true) : ∀ y ∈ l.take 19, -9223372036854775808 ≤ y ∧ y < 9223372036854775808 := fun y hy => wf_i64 (hw y (List.mem_of_mem_take hy))
theorem smp_chk {a : Int} {l : List Int} (hw : ∀ x ∈ l, (Lit.int .i64 x).wf = true) : chk (smp a l) = 0 := by
  unfold smp chk
  simp only
  rw [if_neg (by simp [made_len]; omega), made_ok _ _ (take_wf hw)]
  rfl
theorem smp_wf {a : Int} {l : List Int} (hw : ∀ x ∈ l, (Lit.int .i64 x).wf = true) : ∀ x ∈ smp a l, WF x := by
  intro x hx
  unfold smp at hx
  rcases List.mem_cons.1 hx with rfl | hx
  · refine ⟨?_, ?_⟩ <;> simp [Lit.wf, IntKind.min, IntKind.max, IntKind.signed, IntKind.bits] <;> omega
  · exact (made_wf _ _ (by omega) (by simp; omega) (take_wf hw) x hx).1
theorem smp_len (a : Int) (l : List Int) : (smp a l).length = min l.length 19 + 1 := by simp [smp, made_len]; omega
end Go.Proofs.YthaegbiblblccaaGreatDoor.Smp
