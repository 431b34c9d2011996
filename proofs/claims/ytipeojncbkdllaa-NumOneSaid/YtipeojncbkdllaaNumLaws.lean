/- The pure statements of chapter 1: NumPuts, NumSigns, NumTakes, NumBack, NumOne. Conditions: none. -/
import Derived.Test.YtipeojncbkdllaaNumGlue
import Derived.Test.YtipeojncbkdllaaXNumx1
import Derived.Test.YtipeojncbkdllaaXNumx3
import Derived.Test.YtipeojncbkdllaaXNumx4
import Derived.Test.YtipeojncbkdllaaXNumx7
namespace Go.Proofs.Ytipeojncbkdllaa.Num
open Go.RowKit Go.Proofs.YtipeojncbkdllaaW.PrintWords Go.Proofs.YtipeojncbkdllaaW.PrintMore Go.Proofs.Ytipeojncbkdllaa.XNum

theorem enc300 : enc 300 = [172, 2] := by rw [enc_big (by decide), enc_small (by decide)]; rfl
theorem enc1 : enc 1 = [1] := enc_small (by decide)
theorem enc2 : enc 2 = [2] := enc_small (by decide)
theorem shown_f {k : Nat} (hk : 10 ≤ k) : postroomlaw1_shown.f k = some true := by
  unfold postroomlaw1_shown.f
  rw [show (300 : Int) = ((300 : Nat) : Int) from rfl, put_f (by decide) hk]
  simp only [bsome]
  rw [bs_toList, if_pos enc300, putInt_f (by decide) hk]
  simp only [bsome]
  rw [bs_toList, if_pos (show enc (zig (-1)) = [1] from enc1), putInt_f (by decide) hk]
  simp only [bsome]
  rw [bs_toList, if_pos (show enc (zig 1) = [2] from enc2), show (⟨#[97]⟩ : ByteArray) = bs [97] from rfl, putText_f (by decide) hk]
  simp only [bsome]
  rw [bs_toList, show encT [97] = [1, 97] by unfold encT; rw [show [(97 : UInt8)].length = 1 from rfl, enc1]; rfl]
  rfl
theorem puts (a0 : Int) (a1 : Int) (a2 : ByteArray) (h0 : (Lit.int .u64 a0).wf = true) (h1 : (Lit.int .i64 a1).wf = true) (h2 : a2.size ≤ 140737488351232) : ∃ k, postroomlaw1_NumPuts.f k a0 a1 a2 = some true := by
  obtain ⟨hn0, hn1⟩ := wf_u64 h0
  have hm := wf_i64 h1
  obtain ⟨n, rfl⟩ := Int.eq_ofNat_of_zero_le hn0
  obtain ⟨l, rfl⟩ := bs_list a2
  rw [bs_size] at h2
  obtain ⟨K, hK⟩ : ∃ K : Nat, 100 ≤ K := ⟨100, by omega⟩
  refine ⟨K + 1, ?_⟩
  unfold postroomlaw1_NumPuts.f
  rw [shown_f (by omega)]
  simp only [bsome]
  rw [if_pos trivial]
  simp only [postroomlaw1_NumPuts.j0]
  split
  · rfl
  · rw [put_f (by omega) (by omega), rput_f (by omega) (by omega)]
    simp only [bsome]
    rw [if_pos trivial, putInt_f hm (by omega), rputInt_f hm (by omega)]
    simp only [bsome]
    rw [if_pos trivial, putText_f h2 (by omega), rputText_f h2 (by omega)]
    simp only [bsome, beq_self_eq_true]
theorem takes (a0 : ByteArray) (a1 : Int) (h0 : a0.size ≤ 140737488351232) (h1 : (Lit.int .i64 a1).wf = true) : ∃ k, postroomlaw1_NumTakes.f k a0 a1 = some true := by
  have hm := wf_i64 h1
  obtain ⟨l, rfl⟩ := bs_list a0
  rw [bs_size] at h0
  obtain ⟨K, hK⟩ : ∃ K : Nat, 100 ≤ K := ⟨100, by omega⟩
  refine ⟨K + 1, ?_⟩
  unfold postroomlaw1_NumTakes.f
  rw [shown_f (by omega)]
  simp only [bsome]
  rw [if_pos trivial]
  simp only [postroomlaw1_NumTakes.j0]
  split
  · rfl
  · rw [take_f h0 (by omega), rtake_f h0 (by omega), takeInt_f h0 (by omega), rtakeInt_f h0 (by omega), takeText_f hm h0 (by omega), rtakeText_f hm h0 (by omega)]
    simp only [bsome, if_true, beq_self_eq_true]
theorem takeTP_put (t rest : List UInt8) (most : Int) (h : t.length < 18446744073709551616) : takeTP (encT t ++ rest) most = if (t.length : Int) > mx most 0 then (bs [], bs [], 7) else (bs t, bs rest, 0) := by
  unfold takeTP encT
  rw [List.append_assoc, dec_put h]
  simp only [List.length_append]
  rw [if_neg (show ¬ t.length > t.length + rest.length by omega), List.take_left', List.drop_left'] <;> rfl
theorem back (a0 a1 : Int) (a2 a3 : ByteArray) (h0 : (Lit.int .u64 a0).wf = true) (h1 : (Lit.int .i64 a1).wf = true) (h2 : a2.size ≤ 140737488351232) (h3 : a3.size ≤ 140737488351232) : ∃ k, postroomlaw1_NumBack.f k a0 a1 a2 a3 = some true := by
  obtain ⟨hn0, hn1⟩ := wf_u64 h0
  have hm := wf_i64 h1
  obtain ⟨n, rfl⟩ := Int.eq_ofNat_of_zero_le hn0
  obtain ⟨t, rfl⟩ := bs_list a2
  obtain ⟨r, rfl⟩ := bs_list a3
  rw [bs_size] at h2 h3
  obtain ⟨K, hK⟩ : ∃ K : Nat, 100 ≤ K := ⟨100, by omega⟩
  refine ⟨K + 1, ?_⟩
  unfold postroomlaw1_NumBack.f
  rw [shown_f (by omega)]
  simp only [bsome]
  rw [if_pos trivial]
  simp only [postroomlaw1_NumBack.j0]
  by_cases hs : wrap64 (((bs t).size : Int) + ((bs r).size : Int)) > 3000
  · rw [decide_eq_true hs, if_pos rfl]
  · rw [decide_eq_false hs, if_neg (by decide)]
    rw [bs_size, bs_size, w64_id (by omega) (by omega)] at hs
    have l1 := enc_len10 (n := n) (by omega)
    have l2 := enc_len10 (zig_lt hm)
    have l3 := enc_len10 (n := t.length) (by omega)
    have l4 : (encT t).length = (enc t.length).length + t.length := by unfold encT; rw [List.length_append]
    rw [put_f (by omega) (by omega)]
    simp only [bsome]
    rw [bs_size, bs_size, if_pos (by omega), bs_app, take_f (by rw [List.length_append]; omega) (by omega), takeP_put (by omega)]
    simp only [bsome]
    rw [putInt_f hm (by omega)]
    simp only [bsome]
    rw [bs_size, if_pos (by omega), bs_app, takeInt_f (by rw [List.length_append]; omega) (by omega), takeIP_put hm]
    simp only [bsome]
    rw [putText_f h2 (by omega)]
    simp only [bsome]
    rw [bs_size, bs_size, if_pos (by omega), bs_app, takeText_f (by omega) (by rw [List.length_append]; omega) (by omega), takeTP_put t r _ (by omega), if_neg (by unfold mx; split <;> omega)]
    simp only [bsome]
    rw [if_pos (by omega), w64_id (by omega) (by omega), takeText_f (by omega) (by rw [List.length_append]; omega) (by omega), takeTP_put t r _ (by omega)]
    simp only [bsome, if_true]
    by_cases ht : t.length = 0
    · rw [if_neg (by unfold mx; split <;> omega), decide_eq_false (by omega)]; rfl
    · rw [if_pos (by unfold mx; split <;> omega), decide_eq_true (by omega)]; rfl
theorem one (a0 : ByteArray) (h0 : a0.size ≤ 140737488351232) : ∃ k, postroomlaw1_NumOne.f k a0 = some true := by
  obtain ⟨l, rfl⟩ := bs_list a0
  rw [bs_size] at h0
  obtain ⟨K, hK⟩ : ∃ K : Nat, 100 ≤ K := ⟨100, by omega⟩
  refine ⟨K + 2, ?_⟩
  unfold postroomlaw1_NumOne.f
  rw [shown_f (by omega)]
  simp only [bsome]
  rw [if_pos trivial]
  simp only [postroomlaw1_NumOne.j0]
  split
  · rfl
  · rw [take_f h0 (by omega)]
    rcases takeP_cases l with ⟨n, r, e, hn, ht⟩ | ⟨ht, hd⟩
    · have hl : (enc n).length + r.length = l.length := by rw [e, List.length_append]
      have hti : takeIP l = (zag n, bs r, 0) := by unfold takeIP; rw [e, dec_put hn]
      have htt : takeTP l (l.length : Int) = if (n : Int) > mx (l.length : Int) 0 then (bs [], bs [], 7) else if n > r.length then (bs [], bs [], 2) else (bs (r.take n), bs (r.drop n), 0) := by unfold takeTP; rw [e, dec_put hn]
      rw [ht]
      simp only [bsome]
      rw [if_pos trivial, takeInt_f h0 (by omega), hti]
      simp only [bsome]
      rw [if_pos trivial, put_f hn (by omega)]
      simp only [bsome]
      rw [bs_size, bs_size, if_pos (by omega), bs_app, bs_toList, bs_toList, if_pos e.symm, putInt_f (zag_rng hn) (by omega), zig_zag]
      simp only [bsome]
      rw [bs_size, if_pos (by omega), bs_app, bs_toList, if_pos e.symm, bne_self_eq_false]
      simp only [postroomlaw1_NumOne.j1]
      rw [if_neg (by decide), bs_size, takeText_f (by omega) h0 (by omega), htt]
      split
      · rfl
      · split
        · rfl
        · simp only [bsome]
          have hx : (r.take n).length = n := by rw [List.length_take]; omega
          rw [if_pos trivial, putText_f (by omega) (by omega)]
          simp only [bsome]
          rw [bs_size, bs_size, if_pos (by unfold encT; rw [List.length_append, hx, List.length_drop]; omega), bs_app, bs_toList, bs_toList, if_pos (by unfold encT; rw [hx, List.append_assoc, List.take_append_drop]; exact e.symm), bs_size, hx, u64_id (by omega) (by omega), beq_self_eq_true]
    · rw [ht]
      simp only [bsome]
      rw [if_neg (by decide), if_pos trivial, if_pos trivial, bs_toList]
      rfl
theorem signs (a0 : Int) (h0 : (Lit.int .i64 a0).wf = true) : ∃ k, postroomlaw1_NumSigns.f k a0 = some true := by
  have hm := wf_i64 h0
  have hm' : -9223372036854775808 ≤ -(a0 + 1) ∧ -(a0 + 1) < 9223372036854775808 := by omega
  have hw : wrap64 (-(wrap64 (a0 + 1))) = -(a0 + 1) := by unfold wrap64; omega
  refine ⟨100, ?_⟩
  unfold postroomlaw1_NumSigns.f
  rw [shown_f (by decide)]
  simp only [bsome]
  rw [if_pos trivial, putInt_f hm (by decide), hw, putInt_f hm' (by decide)]
  simp only [bsome]
  -- the two numbers differ in their lowest bit
  obtain ⟨h, b, c, hb, hc, ea, eb⟩ : ∃ (h b c : Nat), (b = 0 ∧ c = 1 ∨ b = 1 ∧ c = 0) ∧ h < 9223372036854775808 ∧ zig a0 = 2 * h + b ∧ zig (-(a0 + 1)) = 2 * h + c := by
    by_cases h : 0 ≤ a0
    · exact ⟨a0.toNat, 0, 1, by omega, by omega, by unfold zig; rw [if_pos h]; omega, by unfold zig; rw [if_neg (by omega)]; omega⟩
    · exact ⟨(-(a0 + 1)).toNat, 1, 0, by omega, by omega, by unfold zig; rw [if_neg h]; omega, by unfold zig; rw [if_pos (by omega)]; omega⟩
  have hr : (a0 ≥ -64 ∧ a0 < 64) ↔ h < 64 := by unfold zig at ea; split at ea <;> omega
  rw [ea, eb]
  -- their bytes: the first, and the others
  obtain ⟨p, q, tl, e1, e2, hpq, hp, htl⟩ : ∃ (p q : Nat) (tl : List UInt8), enc (2 * h + b) = u8 p :: tl ∧ enc (2 * h + c) = u8 q :: tl ∧ (p = 2 * (p / 2) + b ∧ q = 2 * (p / 2) + c) ∧ p < 256 ∧ (tl = [] ↔ h < 64) := by
    by_cases hs : h < 64
    · exact ⟨2 * h + b, 2 * h + c, [], enc_small (by omega), enc_small (by omega), by omega, by omega, by simp [hs]⟩
    · refine ⟨(2 * h + b) % 128 + 128, (2 * h + c) % 128 + 128, enc ((2 * h + b) / 128), enc_big (by omega), by rw [enc_big (by omega), show (2 * h + c) / 128 = (2 * h + b) / 128 by omega], by omega, by omega, ?_⟩
      constructor
      · intro h0; have := enc_pos ((2 * h + b) / 128); rw [h0] at this; simp at this
      · intro h0; exact absurd h0 hs
  rw [e1, e2]
  have b1 : bt (bs (u8 p :: tl)) 0 = (p : Int) := by
    have := bt_bs (u8 p :: tl) 0 (by simp); simp only [List.getElem_cons_zero, Int.natCast_zero] at this; rw [this, u8_toNat hp]
  have b2 : bt (bs (u8 q :: tl)) 0 = (q : Int) := by
    have := bt_bs (u8 q :: tl) 0 (by simp); simp only [List.getElem_cons_zero, Int.natCast_zero] at this; rw [this, u8_toNat (by omega)]
  have hx : Go.bits .xor .u8 (p : Int) (q : Int) = 1 := by
    have key : ∀ m < 128, ∀ b < 2, Go.bits .xor .u8 ((2 * m + b : Nat) : Int) ((2 * m + (1 - b) : Nat) : Int) = 1 := by decide +kernel
    have := key (p / 2) (by omega) b (by omega)
    rw [show 2 * (p / 2) + b = p by omega, show 2 * (p / 2) + (1 - b) = q by omega] at this
    exact this
  have ts : ∀ c : UInt8, (bs (c :: tl)).extract 1 (bs (c :: tl)).size = bs tl := fun c => by rw [bs_drop]; rfl
  rw [b1, b2, hx, ts, ts]
  simp only [bs_size, List.length_cons]
  rw [if_pos trivial, if_neg (by omega), if_pos (by omega), if_pos (by omega), if_pos trivial, if_pos (by omega), if_pos (by omega), if_pos trivial]
  have hz : tl.length = 0 ↔ h < 64 := by rw [← htl]; exact List.length_eq_zero_iff
  by_cases hs : h < 64
  · obtain ⟨x1, x2⟩ := hr.2 hs
    rw [if_pos (by omega), decide_eq_true x2, show (((tl.length + 1 : Nat) : Int) == 1) = true by rw [beq_iff_eq]; have := hz.2 hs; omega]
    rfl
  · have hne : (((tl.length + 1 : Nat) : Int) == 1) = false := by rw [beq_eq_false_iff_ne]; intro h0; exact hs (hz.1 (by omega))
    rw [hne]
    by_cases x1 : a0 ≥ -64
    · rw [if_pos x1, decide_eq_false (fun x2 => hs (hr.1 ⟨x1, x2⟩))]; rfl
    · rw [if_neg x1]; rfl
end Go.Proofs.Ytipeojncbkdllaa.Num
