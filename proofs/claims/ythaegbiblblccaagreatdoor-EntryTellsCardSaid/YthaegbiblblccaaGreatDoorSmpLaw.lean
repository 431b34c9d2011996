/- The plain law of chapter 4: bytes and samples, there and back. Conditions: those that each theorem names. -/
import Derived.Test.YthaegbiblblccaaGreatDoorSmpLib
import Derived.Test.YthaegbiblblccaaGreatDoorXEntP1
namespace Go.Proofs.YthaegbiblblccaaGreatDoor.Smp
open Go.RowKit Go.Proofs.YthaegbiblblccaaGreatDoorW.PrintWords Go.Proofs.YthaegbiblblccaaGreatDoorW.PrintMore Go.Proofs.YthaegbiblblccaaGreatDoor.XEnt Go.Proofs.YthaegbiblblccaaGreatDoor.Num
set_option linter.unusedVariables false
set_option linter.unusedSimpArgs false

instance : DecidableEq S := fun a b => decidable_of_iff (a.f0 = b.f0 ∧ a.f1 = b.f1) ⟨fun h => by cases a; cases b; cases h.1; cases h.2; rfl, fun h => by rw [h]; exact ⟨rfl, rfl⟩⟩
theorem w64_u64 (z : Int) : wrap64 (IntKind.u64.wrap z) = wrap64 z := by
  unfold wrap64 IntKind.wrap
  simp [IntKind.signed, IntKind.bits]
theorem u64_w64 {z : Int} (h0 : 0 ≤ z) (h1 : z < 18446744073709551616) : IntKind.u64.wrap (wrap64 z) = z := by
  unfold wrap64 IntKind.wrap
  simp [IntKind.signed, IntKind.bits]
  omega
theorem w64_w64 (z : Int) : wrap64 (wrap64 z) = wrap64 z := by unfold wrap64; omega
theorem w64_r (z : Int) : -9223372036854775808 ≤ wrap64 z ∧ wrap64 z < 9223372036854775808 := by unfold wrap64; omega
theorem body_len : ∀ (l : List S) (a b c : Int), (body a b c l).length ≤ 20 * l.length
  | [], _, _, _ => by simp [body]
  | x :: l, a, b, c => by
    have h1 := enc_len10 (zig_lt (w64_r (wrap64 (wrap64 x.f0 - a) - b)))
    have h2 := enc_len10 (zig_lt (w64_r (x.f1 - c)))
    have h3 := body_len l (wrap64 x.f0) (wrap64 (wrap64 x.f0 - a)) x.f1
    simp only [body, List.length_append, List.length_cons]
    omega
theorem pairs_body : ∀ (l : List S) (a b c : Int) (r : List UInt8), (∀ x ∈ l, WF x) → pairs l.length a b c (body a b c l ++ r) = some (l, r)
  | [], _, _, _, r, _ => rfl
  | x :: l, a, b, c, r, h => by
    have hx := h x (by simp)
    have h0 := wf_u64 hx.1
    have h1 := wf_i64 hx.2
    have z1 := zig_lt (w64_r (wrap64 (wrap64 x.f0 - a) - b))
    have z2 := zig_lt (w64_r (x.f1 - c))
    have e1 : wrap64 (b + wrap64 (wrap64 (wrap64 x.f0 - a) - b)) = wrap64 (wrap64 x.f0 - a) := by unfold wrap64; omega
    have e2 : wrap64 (a + wrap64 (wrap64 x.f0 - a)) = wrap64 x.f0 := by unfold wrap64; omega
    have e3 : wrap64 (c + wrap64 (x.f1 - c)) = x.f1 := by unfold wrap64; omega
    have ih := pairs_body l (wrap64 x.f0) (wrap64 (wrap64 x.f0 - a)) x.f1 r (fun y hy => h y (by simp [hy]))
    simp only [body, List.length_cons, List.append_assoc]
    rw [pairs, dec_put z1]
    simp only
    rw [dec_put z2]
    simp only [zag_zig]
    rw [e1, e2, e3, ih, u64_w64 h0.1 h0.2]
    rfl
theorem pairs_some : ∀ (n : Nat) (a b c : Int) (l : List UInt8) (o : List S) (u : List UInt8), pairs n a b c l = some (o, u) → l = body a b c o ++ u ∧ o.length = n ∧ ∀ x ∈ o, WF x
  | 0, a, b, c, l, o, u, h => by
    simp only [pairs, Option.some.injEq, Prod.mk.injEq] at h
    obtain ⟨rfl, rfl⟩ := h
    exact ⟨rfl, rfl, by simp⟩
  | n + 1, a, b, c, l, o, u, h => by
    simp only [pairs] at h
    rcases h1 : dec 0 l with _ | ⟨i, q⟩
    · rw [h1] at h; cases h
    · rw [h1] at h
      simp only at h
      rcases h2 : dec 0 q with _ | ⟨j, t⟩
      · rw [h2] at h; cases h
      · rw [h2] at h
        simp only at h
        obtain ⟨p, hp, he⟩ := Option.map_eq_some_iff.1 h
        obtain ⟨o', u'⟩ := p
        simp only [Prod.mk.injEq] at he
        obtain ⟨rfl, rfl⟩ := he
        obtain ⟨k1, k2, k3⟩ := pairs_some n _ _ _ _ _ _ hp
        obtain ⟨d1, g1⟩ := dec_some h1
        obtain ⟨d2, g2⟩ := dec_some h2
        have r1 := zag_rng g1
        have r2 := zag_rng g2
        have f1 : wrap64 (IntKind.u64.wrap (wrap64 (a + wrap64 (b + zag i)))) = wrap64 (a + wrap64 (b + zag i)) := by rw [w64_u64, w64_w64]
        have e1 : wrap64 (wrap64 (wrap64 (a + wrap64 (b + zag i)) - a) - b) = zag i := by unfold wrap64; omega
        have e2 : wrap64 (wrap64 (c + zag j) - c) = zag j := by unfold wrap64; omega
        have e3 : wrap64 (wrap64 (a + wrap64 (b + zag i)) - a) = wrap64 (b + zag i) := by unfold wrap64; omega
        refine ⟨?_, by simp [k2], ?_⟩
        · simp only [body, f1]
          rw [e1, e2, e3, zig_zag, zig_zag, d1, d2, k1]
          simp only [List.append_assoc]
        · intro x hx
          rcases List.mem_cons.1 hx with rfl | hx
          · refine ⟨?_, ?_⟩
            · have := w64_r (a + wrap64 (b + zag i))
              simp [Lit.wf, IntKind.min, IntKind.max, IntKind.signed, IntKind.bits, IntKind.wrap]; omega
            · have := w64_r (c + zag j)
              simp [Lit.wf, IntKind.min, IntKind.max, IntKind.signed, IntKind.bits]; omega
          · exact k3 x hx
theorem chk_len {l : List S} (h : chk l = 0) : 0 < l.length ∧ l.length ≤ 20 := by
  cases l with
  | nil => cases h
  | cons x r =>
    simp only [chk] at h
    by_cases hl : 20 < (x :: r).length
    · rw [if_pos hl] at h; cases h
    · exact ⟨by simp, by omega⟩
theorem taken_bytes {l : List S} (hc : chk l = 0) (hw : ∀ x ∈ l, WF x) (r : List UInt8) : taken (bytes l ++ r) = some (l, r) := by
  obtain ⟨h0, h20⟩ := chk_len hc
  match l, hc, hw, h0, h20 with
  | x :: l, hc, hw, _, h20 =>
    have hx := hw x (by simp)
    have h0 := wf_u64 hx.1
    have h1 := wf_i64 hx.2
    have e0 : ((x.f0.toNat : Nat) : Int) = x.f0 := by omega
    unfold taken bytes
    simp only [List.append_assoc]
    rw [dec_put (by omega)]
    simp only
    rw [if_neg (by simp only [List.length_cons] at h20 ⊢; omega), dec_put (by omega)]
    simp only
    rw [dec_put (zig_lt h1)]
    simp only [zag_zig, e0, List.length_cons, Nat.add_sub_cancel]
    rw [pairs_body l _ _ _ r (fun y hy => hw y (by simp [hy]))]
    simp only
    rw [if_pos hc]
theorem takeS_bytes {l : List S} (hc : chk l = 0) (hw : ∀ x ∈ l, WF x) (r : List UInt8) : takeS (bytes l ++ r) = (l, bs r, 0) := by
  unfold takeS
  rw [taken_bytes hc hw r]
theorem taken_some {s : List UInt8} {o : List S} {u : List UInt8} (h : taken s = some (o, u)) : s = bytes o ++ u ∧ chk o = 0 ∧ ∀ x ∈ o, WF x := by
  unfold taken at h
  rcases h1 : dec 0 s with _ | ⟨n, r⟩
  · rw [h1] at h; cases h
  · rw [h1] at h
    simp only at h
    by_cases hn : n = 0 ∨ 20 < n
    · rw [if_pos hn] at h; cases h
    · rw [if_neg hn] at h
      rcases h2 : dec 0 r with _ | ⟨a, q⟩
      · rw [h2] at h; cases h
      · rw [h2] at h
        simp only at h
        rcases h3 : dec 0 q with _ | ⟨v, t⟩
        · rw [h3] at h; cases h
        · rw [h3] at h
          simp only at h
          rcases h4 : pairs (n - 1) (wrap64 (a : Int)) 0 (zag v) t with _ | ⟨o', u'⟩
          · rw [h4] at h; cases h
          · rw [h4] at h
            simp only at h
            by_cases hc : chk (⟨(a : Int), zag v⟩ :: o') = 0
            · rw [if_pos hc] at h
              simp only [Option.some.injEq, Prod.mk.injEq] at h
              obtain ⟨rfl, rfl⟩ := h
              obtain ⟨k1, k2, k3⟩ := pairs_some _ _ _ _ _ _ _ h4
              obtain ⟨d1, g1⟩ := dec_some h1
              obtain ⟨d2, g2⟩ := dec_some h2
              obtain ⟨d3, g3⟩ := dec_some h3
              have r3 := zag_rng g3
              refine ⟨?_, hc, ?_⟩
              · simp only [bytes, List.length_cons, k2, zig_zag, Int.toNat_natCast]
                rw [show n - 1 + 1 = n by omega, d1, d2, d3, k1]
                simp only [List.append_assoc]
              · intro x hx
                rcases List.mem_cons.1 hx with rfl | hx
                · refine ⟨?_, ?_⟩ <;> simp [Lit.wf, IntKind.min, IntKind.max, IntKind.signed, IntKind.bits] <;> omega
                · exact k3 x hx
            · rw [if_neg hc] at h; cases h
theorem takeS_cases (s : List UInt8) : (∃ o u, taken s = some (o, u) ∧ takeS s = (o, bs u, 0)) ∨ (taken s = none ∧ takeS s = ([], bs [], 2)) := by
  unfold takeS
  rcases taken s with _ | ⟨o, u⟩
  · exact .inr ⟨rfl, rfl⟩
  · exact .inl ⟨o, u, rfl, rfl⟩
theorem bytes_inj {l m : List S} (hl : chk l = 0) (hm : chk m = 0) (wl : ∀ x ∈ l, WF x) (wm : ∀ x ∈ m, WF x) (h : bytes l = bytes m) : l = m := by
  have h1 := taken_bytes hl wl []
  have h2 := taken_bytes hm wm []
  rw [h, h2] at h1
  injection h1 with h1
  exact (Prod.mk.inj h1).1.symm
theorem bytes_len {l : List S} (h : chk l = 0) (hw : ∀ x ∈ l, WF x) : (bytes l).length ≤ 500 := by
  obtain ⟨h0, h20⟩ := chk_len h
  match l, h0, h20, hw with
  | x :: l, _, h20, hw =>
    have hx := hw x (by simp)
    have g0 := wf_u64 hx.1
    have g1 := wf_i64 hx.2
    have e1 := enc_len10 (n := (x :: l).length) (by omega)
    have e2 := enc_len10 (n := x.f0.toNat) (by omega)
    have e3 := enc_len10 (zig_lt g1)
    have e4 := body_len l (wrap64 x.f0) 0 x.f1
    simp only [List.length_cons] at h20
    simp only [bytes, List.length_append]
    omega
theorem shown_bytes : bytes [(⟨100, 7⟩ : S), ⟨110, 7⟩, ⟨120, 5⟩] = [3, 100, 14, 20, 0, 0, 3] := by decide +kernel
end Go.Proofs.YthaegbiblblccaaGreatDoor.Smp
