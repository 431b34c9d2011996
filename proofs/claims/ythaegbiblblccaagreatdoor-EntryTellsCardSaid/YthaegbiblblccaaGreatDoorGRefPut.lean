/- What the document's Put answers for samples: the same as sample.Put; and that the code comes to it. Conditions: the samples lie in memory. -/
import Derived.Test.YthaegbiblblccaaGreatDoorSmpLib
import Derived.Test.YthaegbiblblccaaGreatDoorSmpNumR
import Derived.Deep.RegionHeld3
import Derived.Deep.LoopGhost
import Derived.Lib.Hide
import Derived.Outline
import Derived.WalkKit
import Derived.KernelRfl
import Derived.Test.YthaegbiblblccaaGreatDoorXEntP1
namespace Go.Proofs.YthaegbiblblccaaGreatDoor.XEnt
open Go.RowKit Go.Proofs.YthaegbiblblccaaGreatDoorW.PrintWords Go.Proofs.YthaegbiblblccaaGreatDoorW.PrintLast Go.Proofs.YthaegbiblblccaaGreatDoorW.PrintMore Go.Proofs.YthaegbiblblccaaGreatDoor.Num
set_option linter.unusedVariables false
set_option linter.unusedSimpArgs false

theorem rrd_S (l : List S54) (i : Nat) (h : i < l.length) : rd_T54 l (i : Int) = l[i] := by
  unfold rd_T54
  rw [Int.toNat_natCast, List.getD_eq_getElem?_getD, List.getElem?_eq_getElem h]
  rfl
theorem rcheck_l0 (x : S54) (r : List S54) (hr : r.length ≤ 1000) : ∀ (d k i : Nat) (hi : i + d = r.length), d + 1 ≤ k →
    postroomref4_Check.l0 k (x :: r) ((i : Int) + 1) = some (bif Smp.rises ((x :: r)[i]'(by simp; omega)) (r.drop i) then 0 else 8)
  | d, k, i, hi, hk => by
    obtain ⟨k, rfl⟩ : ∃ m, k = m + 1 := ⟨k - 1, by omega⟩
    simp only [postroomref4_Check.l0]
    match d, hi, hk with
    | 0, hi, _ =>
      have e : r.drop i = [] := List.drop_eq_nil_of_le (by omega)
      rw [if_neg (by simp; omega), e]
      simp [Smp.rises]
    | d + 1, hi, hk =>
      have hlt : i < r.length := by omega
      have e : r.drop i = r[i] :: r.drop (i + 1) := List.drop_eq_getElem_cons hlt
      have e2 : (x :: r)[i + 1]'(by simp; omega) = r[i] := by simp
      have e3 : wrap64 ((i : Int) + 1 - 1) = (i : Int) := by rw [w64_id (by omega) (by omega)]; omega
      rw [e3, if_pos (by simp; omega), if_pos (by omega), if_pos (by omega), if_pos (by simp; omega), show ((i : Int) + 1) = ((i + 1 : Nat) : Int) by omega, rrd_S (x :: r) (i + 1) (by simp; omega), rrd_S (x :: r) i (by simp; omega), e, e2]
      simp only [Smp.rises]
      by_cases h : r[i].f0 ≤ ((x :: r)[i]'(by simp; omega)).f0
      · rw [if_pos h, decide_eq_false (by omega)]; rfl
      · have ih := rcheck_l0 x r hr d k (i + 1) (by omega) (by omega)
        rw [e2] at ih
        rw [if_neg h, decide_eq_true (by omega), w64_id (by omega) (by omega), ih, Bool.true_and]
theorem rcheck_f (l : List S54) (k : Nat) (hk : 1003 ≤ k) : postroomref4_Check.f k l = some (Smp.chk l) := by
  obtain ⟨k, rfl⟩ : ∃ m, k = m + 1 := ⟨k - 1, by omega⟩
  unfold postroomref4_Check.f
  match l with
  | [] => rw [if_pos (by simp)]; simp only [postroomref4_Check.j0]; rfl
  | x :: r =>
    rw [if_neg (by simp; omega)]
    by_cases h : (x :: r).length ≤ 20
    · have hr : r.length ≤ 20 := by simp at h; omega
      have := rcheck_l0 x r (by omega) r.length k 0 (by omega) (by omega)
      simp only [List.getElem_cons_zero, List.drop_zero, Int.natCast_zero, Int.zero_add] at this
      rw [decide_eq_false (by omega)]
      simp only [postroomref4_Check.j0]
      rw [if_neg (by decide), this]
      simp only [Smp.chk]
      rw [if_neg (by omega)]
    · rw [decide_eq_true (by omega)]
      simp only [postroomref4_Check.j0]
      rw [if_pos trivial]
      simp only [Smp.chk]
      rw [if_pos (by omega)]
/-- How much later a sample is than the one ahead. -/
def stp (l : List S54) (i : Nat) : Int := if i = 0 then 0 else wrap64 (wrap64 (rd_T54 l (i : Int)).f0 - wrap64 (rd_T54 l ((i : Int) - 1)).f0)
theorem step_f (l : List S54) (i : Nat) (h : i < l.length) (hl : l.length ≤ 1000) : ∃ z, postroomref4_step.f l (i : Int) = some z ∧ wrap64 z = stp l i := by
  unfold postroomref4_step.f stp
  by_cases h0 : i = 0
  · exact ⟨0, by rw [if_pos (by omega)], by rw [if_pos h0]; exact w64_id (by omega) (by omega)⟩
  · have e : wrap64 ((i : Int) - 1) = (i : Int) - 1 := w64_id (by omega) (by omega)
    rw [if_neg (by omega), if_neg h0, e]
    refine ⟨_, by (repeat rw [if_pos (by omega)]), ?_⟩
    unfold wrap64 IntKind.wrap
    simp [IntKind.signed, IntKind.bits]
    omega
instance rdec (l : List S54) : Decidable (∀ y ∈ l, Smp.WF y) := List.decidableBAll (p := fun y => Smp.WF y) l
def postroomref4_Put.f (l0 : List S54) : Option (ByteArray × Int) := if ∀ y ∈ l0, Smp.WF y then some (Smp.putS l0) else none
theorem rnp (n : Nat) (hn : n < 18446744073709551616) (w : World) : Calls Tryz.prog 30 #[.int .u64 (n : Int)] w fun e w' => e = .returned (.string (bs (enc n))) ∧ Below w.heap.size w w' :=
  postroomref1_Put.calls 10 (n : Int) _ w (rput_f hn (by omega))
theorem rnpi (m : Int) (hm : -9223372036854775808 ≤ m ∧ m < 9223372036854775808) (w : World) : Calls Tryz.prog 48 #[.int .i64 m] w fun e w' => e = .returned (.string (bs (enc (zig m)))) ∧ Below w.heap.size w w' :=
  postroomref1_PutInt.calls 10 m _ w (rputInt_f hm (by omega))
theorem rw64_rng (n : Int) : -9223372036854775808 ≤ wrap64 n ∧ wrap64 n < 9223372036854775808 := by unfold wrap64; omega
/-- What came in lies as it lay. -/
structure Kp (w W : World) : Prop where
  below : Below w.heap.size w W
theorem Kp.step {w W W' : World} (h : Kp w W) (hb : Below W.heap.size W W') : Kp w W' := ⟨below_step h.below hb⟩
theorem Kp.drew {w W : World} (h : Kp w W) : Kp w W.drew := ⟨below_drew h.below⟩
theorem Kp.cell {w W : World} (h : Kp w W) {a : Addr} {v : Value} (hc : w.cell? a = some v) : W.cell? a = some v := pw_cell_below h.below hc
theorem rput_bad (A0 : Option Addr) (c0 : Nat) (l0 : List S54) (w : World) (hr0 : Kd.C k54 w A0 l0.length l0) (hc0 : l0.length ≤ c0) (hbad : Smp.chk l0 ≠ 0) :
    Calls Tryz.prog 25 #[.slice A0 l0.length c0] w fun e w' => e = .returned (.tuple #[.string (bs []), .int .i64 (Smp.chk l0)]) ∧ Below w.heap.size w w' := by
  have hck := fun w hr => postroomref4_Check.calls _ A0 c0 l0 (Smp.chk l0) w hr hc0 (rcheck_f l0 1003 (by omega))
  generalize Smp.chk l0 = z at *
  have hz0 : (z == 0) = false := beq_eq_false_iff_ne.2 hbad
  have hz1 : (z != 0) = true := by rw [bne_iff_ne]; exact hbad
  go_enter Tryz.func25, Tryz.ntmps25
  go_wp2_with (go_at_call 35; refine (hck _ hr0).mono ?_; rintro e w1 ⟨rfl, hb⟩)
  go_ret2
  exact ⟨rfl, hb.below⟩
set_option maxHeartbeats 4000000 in
set_option maxRecDepth 100000 in
theorem rput_good (A0 : Option Addr) (c0 : Nat) (x : S54) (l : List S54) (w : World) (hr0 : Kd.C k54 w A0 (x :: l).length (x :: l)) (hc0 : (x :: l).length ≤ c0) (hgood : Smp.chk (x :: l) = 0) (hwf : ∀ y ∈ x :: l, Smp.WF y) :
    Calls Tryz.prog 25 #[.slice A0 (x :: l).length c0] w fun e w' => e = .returned (.tuple #[.string (bs (Smp.bytes (x :: l))), .int .i64 0]) ∧ Below w.heap.size w w' := by
  have hck := fun w hr => postroomref4_Check.calls _ A0 c0 (x :: l) (Smp.chk (x :: l)) w hr hc0 (rcheck_f (x :: l) 1003 (by omega))
  rw [hgood] at hck
  have hlen : (x :: l).length ≤ 20 := by
    rcases Nat.lt_or_ge 20 (x :: l).length with h | h
    · simp only [Smp.chk] at hgood
      rw [if_pos h] at hgood
      cases hgood
    · exact h
  obtain ⟨L, hL⟩ : ∃ L, x :: l = L := ⟨_, rfl⟩
  have hn1 : L.length = l.length + 1 := by rw [← hL]; simp
  obtain ⟨ad, hA, hx0, hx1⟩ := at_T54 hr0 0 (by omega) (by simp)
  subst hA
  have e0 : rd_T54 (x :: l) 0 = x := rfl
  rw [e0] at hx0 hx1
  simp only [Int.toNat_zero, Nat.zero_mul, Addr.add, if_true] at hx0 hx1
  have wx := hwf x (by simp)
  obtain ⟨f0, hf0⟩ := Int.eq_ofNat_of_zero_le (wf_u64 wx.1).1
  have hf0' : f0 < 18446744073709551616 := by have := (wf_u64 wx.1).2; omega
  have wv := wf_i64 wx.2
  rw [hf0] at hx0
  rw [hL] at hck hc0 hr0 hlen ⊢
  obtain ⟨v0, hv0⟩ : ∃ v, x.f1 = v := ⟨_, rfl⟩
  rw [hv0] at hx1 wv
  have p1 := enc_len10 (n := L.length) (by omega)
  have p2 := enc_len10 hf0'
  have p3 := enc_len10 (zig_lt wv)
  have hw1 : IntKind.u64.wrap (L.length : Int) = (L.length : Int) := u64_id (by omega) (by omega)
  have hst := fun (i : Nat) (h : i < L.length) => step_f L i h (by omega)
  have HV := Lib.hid hv0; clear hv0
  have HF := Lib.hid hf0; clear hf0
  have HL := Lib.hid hL; clear hL
  have HG := Lib.hid hgood; clear hgood
  have HW := Lib.hid hwf; clear hwf
  have HS := Lib.hid hst; clear hst
  clear e0 wx
  have hpos : (0 : Int) < (L.length : Int) := by omega
  have hpn : 0 < L.length := by omega
  have HN := Lib.hid hn1; clear hn1
  have q1 : (9223372036854775807 < (bs (enc L.length)).size + (bs (enc f0)).size) = False := eq_false (by rw [bs_size, bs_size]; omega)
  have q3 : (9223372036854775807 < (bs (enc L.length)).size + (bs (enc f0)).size + (bs (enc (zig v0))).size) = False := eq_false (by rw [bs_size, bs_size, bs_size]; omega)
  have q2 : (9223372036854775807 < (bs (enc L.length) ++ bs (enc f0)).size + (bs (enc (zig v0))).size) = False := eq_false (by rw [bs_app, bs_size, bs_size, List.length_append]; omega)
  go_enter Tryz.func25, Tryz.ntmps25
  go_wp2_with (go_at_call 35; refine (hck _ hr0).mono ?_; rintro e w1 ⟨rfl, hb1⟩)
  have hI : Kp w w1 := ⟨hb1.below⟩
  clear hb1
  go_region_held3 (fun W => W.cell? ad = some (.int .u64 (f0 : Int)) ∧ W.cell? ⟨ad.block, ad.off + 1, none⟩ = some (.int .i64 v0))
    (first | exact ⟨hI.cell hx0, hI.cell hx1⟩ | exact ⟨hI.drew.cell hx0, hI.drew.cell hx1⟩)
    (first
      | (go_at_call 30; refine (rnp _ (by omega) _).mono ?_; rintro e w2 ⟨rfl, hb2⟩; have n0_ := Kp.step (by first | exact hI | exact hI.drew) hb2; clear hI hb2; have hI := n0_; clear n0_)
      | (go_at_call 48; refine (rnpi _ wv _).mono ?_; rintro e w2 ⟨rfl, hb2⟩; have n0_ := Kp.step (by first | exact hI | exact hI.drew) hb2; clear hI hb2; have hI := n0_; clear n0_))
  go_wp2
  go_loopg [5, 6] L.length (fun k v5 v6 W => ∃ (i : Nat) (j : Int) (s : List UInt8), v5 = .string (bs s) ∧ v6 = .int .i64 j ∧ Aside0 (j = (i : Int) + 1) ∧ Aside0 (k + i = L.length ∧ i + 1 ≤ L.length) ∧ Aside0 (s ++ Smp.body (wrap64 (rd_T54 L (i : Int)).f0) (stp L i) (rd_T54 L (i : Int)).f1 (L.drop (i + 1)) = Smp.bytes (x :: l)) ∧ Aside0 (s.length ≤ 30 + 20 * i) ∧ Aside0 (Kp w W))
  case atStart =>
    refine ⟨0, 1, enc L.length ++ enc f0 ++ enc (zig v0), by rw [bs_app, bs_app], rfl, ⟨by omega⟩, ⟨by omega⟩, ⟨?_⟩, ⟨?_⟩, ⟨by first | exact hI | exact hI.drew⟩⟩
    · have := HL.out
      subst this
      simp only [Smp.bytes, HF.out, Int.toNat_natCast, show x.f1 = v0 from HV.out, stp, if_true, List.drop_one, List.tail_cons, Int.natCast_zero, show rd_T54 (x :: l) 0 = x from rfl, Nat.zero_add]
    · simp only [List.length_append]; omega
  case round =>
    obtain ⟨i, j, s, rfl, rfl, HJ, HK, HSS, HLL, HB⟩ := hrel
    by_cases c : i + 1 < L.length
    · have cb := decide_eq_true (show j < (L.length : Int) by have := HJ.out; omega)
      have d0 : (0 : Int) ≤ j := by have := HJ.out; omega
      have d1 : j < (L.length : Int) := by have := HJ.out; omega
      have ej : wrap64 (j - 1) = (i : Int) := by have := HJ.out; rw [w64_id (by omega) (by omega)]; omega
      have ejk : IntKind.i64.wrap (j - 1) = (i : Int) := by rw [i64_w]; exact ej
      obtain ⟨i', hi'⟩ : ∃ z, (i : Int) = z := ⟨_, rfl⟩
      rw [hi'] at ej ejk
      have d2 : (0 : Int) ≤ i' := by omega
      have d3 : i' < (L.length : Int) := by omega
      obtain ⟨a6, e6, _, hy1⟩ := at_T54 hr0 j d0 d1
      cases e6
      obtain ⟨a7, e7, _, hz1⟩ := at_T54 hr0 i' d2 d3
      cases e7
      obtain ⟨z1, st1, sv1⟩ := HS.out (i + 1) c
      obtain ⟨z0, st0, sv0⟩ := HS.out i (by omega)
      have ej1 : ((i + 1 : Nat) : Int) = j := by have := HJ.out; omega
      rw [ej1] at st1
      rw [hi'] at st0
      have cs1 := fun W (hI : Kp w W) => postroomref4_step.calls (some ad) c0 L j z1 W (Kd.C_below hr0 hI.below) hc0 st1
      have cs0 := fun W (hI : Kp w W) => postroomref4_step.calls (some ad) c0 L i' z0 W (Kd.C_below hr0 hI.below) hc0 st0
      generalize hy : (rd_T54 L j).f1 = y1 at hy1
      generalize hz : (rd_T54 L i').f1 = y0 at hz1
      have hI := HB.out
      clear HB
      have ra := rw64_rng (IntKind.u64.wrap (z1 - z0))
      have rb := rw64_rng (y1 - y0)
      obtain ⟨A, hA⟩ : ∃ z, wrap64 (IntKind.u64.wrap (z1 - z0)) = z := ⟨_, rfl⟩
      obtain ⟨B, hB⟩ : ∃ z, wrap64 (y1 - y0) = z := ⟨_, rfl⟩
      rw [hA] at ra
      rw [hB] at rb
      have hA' : IntKind.i64.wrap (IntKind.u64.wrap (z1 - z0)) = A := by rw [i64_w]; exact hA
      have hB' : IntKind.i64.wrap (y1 - y0) = B := by rw [i64_w]; exact hB
      have za := enc_len10 (zig_lt ra)
      have zb := enc_len10 (zig_lt rb)
      have hls : s.length ≤ 1000 := by have := HLL.out; omega
      have w1' : (9223372036854775807 < (bs s).size + (bs (enc (zig A))).size) = False := eq_false (by rw [bs_size, bs_size]; omega)
      have w2' : (9223372036854775807 < (bs s).size + (bs (enc (zig A))).size + (bs (enc (zig B))).size) = False := eq_false (by rw [bs_size, bs_size, bs_size]; omega)
      have w3' : (9223372036854775807 < (bs s ++ bs (enc (zig A))).size + (bs (enc (zig B))).size) = False := eq_false (by rw [bs_app, bs_size, bs_size, List.length_append]; omega)
      have HI' := Lib.hid hi'; clear hi'
      have HAA := Lib.hid hA; have HBB := Lib.hid hB
      have HSV1 := Lib.hid sv1; clear sv1
      have HSV0 := Lib.hid sv0; clear sv0
      have HY := Lib.hid hy; clear hy
      have HZ := Lib.hid hz; clear hz
      have HE1 := Lib.hid ej1; clear ej1
      have HC1 := Lib.hid cs1; clear cs1
      have HC0 := Lib.hid cs0; clear cs0
      clear st0 st1 hx0 hx1 q1 q2 q3 p1 p2 p3 hw1 hck
      go_wp2
      go_region_held3 (fun W => W.cell? ⟨(ad.add (j.toNat * 2)).block, (ad.add (j.toNat * 2)).off + 1, none⟩ = some (.int .i64 y1) ∧ W.cell? ⟨(ad.add (i'.toNat * 2)).block, (ad.add (i'.toNat * 2)).off + 1, none⟩ = some (.int .i64 y0))
        (first | exact ⟨hI.cell hy1, hI.cell hz1⟩ | exact ⟨hI.drew.cell hy1, hI.drew.cell hz1⟩)
        (first
          | (go_at_call 49
             first
               | with_reducible refine (HC1.out _ hI).mono ?_
               | with_reducible refine (HC1.out _ hI.drew).mono ?_
               | with_reducible refine (HC0.out _ hI).mono ?_
               | with_reducible refine (HC0.out _ hI.drew).mono ?_
             rintro e w2 ⟨rfl, hb2⟩; have n0_ := Kp.step (by first | exact hI | exact hI.drew) hb2.below; clear hI hb2; have hI := n0_; clear n0_)
          | (go_at_call 48; (first | with_reducible refine (rnpi _ ra _).mono ?_ | with_reducible refine (rnpi _ rb _).mono ?_); rintro e w2 ⟨rfl, hb2⟩; have n0_ := Kp.step (by first | exact hI | exact hI.drew) hb2; clear hI hb2; have hI := n0_; clear n0_))
      go_wp2
      go_roundg (gk - 1)
      case measure => have := HK.out; omega
      case rel =>
        have hd : L.drop (i + 1) = rd_T54 L j :: L.drop (i + 1 + 1) := by rw [← HE1.out, rrd_S L (i + 1) c]; exact List.drop_eq_getElem_cons c
        refine ⟨i + 1, _, s ++ (enc (zig A) ++ enc (zig B)), by rw [bs_app, bs_app, List.append_assoc], rfl, ⟨?_⟩, ⟨?_⟩, ⟨?_⟩, ⟨?_⟩, ⟨by first | exact hI | exact hI.drew⟩⟩
        · have := HJ.out; omega
        · have := HK.out; omega
        · have hs1 : stp L (i + 1) = wrap64 (wrap64 (rd_T54 L j).f0 - wrap64 (rd_T54 L i').f0) := by
            unfold stp
            rw [if_neg (by omega), HE1.out, show j - 1 = i' by have := HJ.out; have := HI'.out; omega]
          have hA2 : A = wrap64 (wrap64 (wrap64 (rd_T54 L j).f0 - wrap64 (rd_T54 L i').f0) - stp L i) := by
            rw [← HAA.out, ← hs1, ← HSV1.out, ← HSV0.out]
            unfold wrap64 IntKind.wrap
            simp [IntKind.signed, IntKind.bits]
            omega
          have hB2 : B = wrap64 ((rd_T54 L j).f1 - (rd_T54 L i').f1) := by rw [← HBB.out, ← HY.out, ← HZ.out]
          rw [← HSS.out, hd, Smp.body, HE1.out, hs1, HI'.out, ← hA2, ← hB2]; simp only [List.append_assoc]
        · have := HLL.out; rw [List.length_append, List.length_append]; omega
    · have cb := decide_eq_false (show ¬ j < (L.length : Int) by have := HJ.out; omega)
      have hi : L.drop (i + 1) = [] := List.drop_eq_nil_of_le (by omega)
      obtain rfl : s = Smp.bytes (x :: l) := by rw [← HSS.out, hi, Smp.body, List.append_nil]
      have hL := HL.out
      go_wp2
      go_ret2
      exact ⟨by rw [hL]; rfl, HB.out.below⟩
theorem postroomref4_Put.calls (A0 : Option Addr) (c0 : Nat) (l0 : List S54) (r1 : ByteArray) (r2 : Int) (w : World) (hr0 : Kd.C k54 w A0 l0.length l0) (hc0 : l0.length ≤ c0) (h : postroomref4_Put.f l0 = some (r1, r2)) :
    Calls Tryz.prog 25 #[.slice A0 l0.length c0] w fun e w' => e = .returned (.tuple #[.string r1, .int .i64 r2]) ∧ Below w.heap.size w w' := by
  unfold postroomref4_Put.f at h
  by_cases hw : ∀ y ∈ l0, Smp.WF y
  · rw [if_pos hw] at h
    have h := Option.some.inj h
    unfold Smp.putS at h
    by_cases hc : Smp.chk l0 = 0
    · rw [if_pos hc] at h
      obtain ⟨rfl, rfl⟩ := Prod.mk.inj h
      match l0, hr0, hc0, hw, hc with
      | [], _, _, _, hc => cases hc
      | x :: l, hr0, hc0, hw, hc => exact rput_good A0 c0 x l w hr0 hc0 hc hw
    · rw [if_neg hc] at h
      obtain ⟨rfl, rfl⟩ := Prod.mk.inj h
      exact rput_bad A0 c0 l0 w hr0 hc0 hc
  · rw [if_neg hw] at h
    cases h
end Go.Proofs.YthaegbiblblccaaGreatDoor.XEnt
