/- The plain law of chapter 4: bytes and samples, there and back. Conditions: those that each theorem names. -/
import Derived.Test.YthaegbiblblccaaGreatDoorSmpLib
import Derived.Test.YthaegbiblblccaaGreatDoorXEntP1
namespace Go.Proofs.YthaegbiblblccaaGreatDoor.Smp
open Go.RowKit Go.Proofs.YthaegbiblblccaaGreatDoorW.PrintWords Go.Proofs.YthaegbiblblccaaGreatDoorW.PrintMore Go.Proofs.YthaegbiblblccaaGreatDoor.XEnt Go.Proofs.YthaegbiblblccaaGreatDoor.Num
set_option linter.unusedVariables false
set_option linter.unusedSimpArgs false

instance : DecidableEq S := fun a b => decidable_of_iff (a.f0 = b.f0 ∧ a.f1 = b.f1) ⟨fun h => by cases a; cases b; cases h.1; cases h.2; rfl, fun h => by rw [h]; exact ⟨rfl, rfl⟩⟩
theorem w64_r (z : Int) : -9223372036854775808 ≤ wrap64 z ∧ wrap64 z < 9223372036854775808 := by unfold wrap64; omega
theorem body_len : ∀ (l : List S) (a b c : Int), (body a b c l).length ≤ 20 * l.length
  | [], _, _, _ => by simp [body]
  | x :: l, a, b, c => by
    have h1 := enc_len10 (zig_lt (w64_r (wrap64 (wrap64 x.f0 - a) - b)))
    have h2 := enc_len10 (zig_lt (w64_r (x.f1 - c)))
    have h3 := body_len l (wrap64 x.f0) (wrap64 (wrap64 x.f0 - a)) x.f1
    simp only [body, List.length_append, List.length_cons]
    omega
theorem chk_len {l : List S} (h : chk l = 0) : 0 < l.length ∧ l.length ≤ 20 := by
  cases l with
  | nil => cases h
  | cons x r =>
    simp only [chk] at h
    by_cases hl : 20 < (x :: r).length
    · rw [if_pos hl] at h; cases h
    · exact ⟨by simp, by omega⟩
theorem bytes_len {l : List S} (h : chk l = 0) (hw : ∀ x ∈ l, WF x) : (bytes l).length ≤ 500 := by
  obtain ⟨h0, h20⟩ := chk_len h
  match l, h0, h20, hw with
  | x :: l, _, h20, hw =>
    have hx := hw x (by simp)
    have g0 := wf_u64 hx.1
    have g1 := wf_i64 hx.2
    have e1 := enc_len10 (n := (x :: l).length) (by omega)
    have e2 := enc_len10 (n := x.f0.toNat) (by omega)
    have e3 := enc_len10 (zig_lt g1)
    have e4 := body_len l (wrap64 x.f0) 0 x.f1
    simp only [List.length_cons] at h20
    simp only [bytes, List.length_append]
    omega
end Go.Proofs.YthaegbiblblccaaGreatDoor.Smp
