/- What mark.numbers answers: the bytes of some numbers, one behind the other; and that the code comes to it. Conditions: at most 1000 numbers, in range; they lie in memory. -/
import Derived.Test.YtmbigoeldobaiaaDoorMrkNumP
import Derived.Test.YtmbigoeldobaiaaDoorBld
import Derived.Deep.RegionHeld3
import Derived.Deep.LoopGhost
import Derived.Lib.Hide
import Derived.Outline
import Derived.Test.YtmbigoeldobaiaaDoorXMrkP1
namespace Go.Proofs.YtmbigoeldobaiaaDoor.XMrk
open Go.RowKit Go.Proofs.YtmbigoeldobaiaaDoorW.PrintWords Go.Proofs.YtmbigoeldobaiaaDoorW.PrintLast Go.Proofs.YtmbigoeldobaiaaDoorW.PrintMore Go.Proofs.YtmbigoeldobaiaaDoor.Num
set_option linter.unusedVariables false
set_option linter.unusedSimpArgs false
/-- Some numbers' bytes. -/
def encs (l : List Int) : List UInt8 := l.flatMap fun x => enc x.toNat
def mark_numbers.f (l0 : List Int) : Option ByteArray := if l0.length ≤ 1000 ∧ ∀ x ∈ l0, 0 ≤ x ∧ x < 18446744073709551616 then some (bs (encs l0)) else none
theorem encs_len {l : List Int} (h : ∀ x ∈ l, 0 ≤ x ∧ x < 18446744073709551616) : (encs l).length ≤ 10 * l.length := by
 induction l with
 | nil => exact Nat.le_refl _
 | cons x l ih =>
  have := enc_len10 (n := x.toNat) (by have := h x (by simp); omega)
  have := ih fun y hy => h y (by simp [hy])
  unfold encs at *
  rw [List.flatMap_cons, List.length_append, List.length_cons]
  omega
theorem encs_snoc (l : List Int) (i : Nat) (h : i < l.length) : encs (l.take (i + 1)) = encs (l.take i) ++ enc l[i].toNat := by
 rw [List.take_succ_eq_append_getElem h]
 unfold encs
 rw [List.flatMap_append]; simp
/-- What holds while a text is built: what came in lies as it lay; the builder, from block b on, holds s. -/
structure InvN (w : World) (b : Nat) (s : List UInt8) (W : World) : Prop where
 below : Below w.heap.size w W
 ge : w.heap.size ≤ b
 bld : Lib.IsBuilder 84 5 b b (Lib.byteCells s) W
theorem InvN.lt {w : World} {b : Nat} {s : List UInt8} {W : World} (h : InvN w b s W) : b < W.heap.size := h.bld.elim (fun x => x.lt) (fun x => x.lt)
theorem bldN_kept {T e B b : Nat} {bs' : List Value} {W W' : World} (h : Lib.IsBuilder T e B b bs' W) (hb : Below W.heap.size W W') : Lib.IsBuilder T e B b bs' W' := by
 have one : ∀ {p : Value}, Lib.BuilderAt T e B b p bs' W → Lib.BuilderAt T e B b p bs' W' := by
  rintro p ⟨h1, v, h2, h3, h4⟩
  exact ⟨h1, v, (hb.block b (Array.getElem?_eq_some_iff.1 h2).1).trans h2, pw_own_below h3 hb, h4⟩
 exact h.elim (fun x => .inl (one x)) (fun x => .inr (one x))
theorem InvN.step {w : World} {b : Nat} {s : List UInt8} {W W' : World} (h : InvN w b s W) (hb : Below W.heap.size W W') : InvN w b s W' :=
 ⟨below_step h.below hb, h.ge, bldN_kept h.bld hb⟩
theorem InvN.cell {w : World} {b : Nat} {s : List UInt8} {W : World} (h : InvN w b s W) {a : Addr} {v : Value} (hc : w.cell? a = some v) : W.cell? a = some v := pw_cell_below h.below hc
theorem InvN.write {w : World} {b : Nat} {s : List UInt8} {W : World} (h : InvN w b s W) (x : ByteArray) (t : List UInt8) (hx : x = bs t) (hl : s.length + t.length ≤ 100000) :
  Calls Tryd.prog 41 #[.pointer (some ⟨b, 0, none⟩), .string x] W fun e W' => e = .returned (.tuple #[.int .i64 (t.length : Int), .nilIface]) ∧ InvN w b (s ++ t) W' := by
 subst hx
 refine (Bld.write b b (Lib.byteCells s) (bs t) W h.bld (by rw [Lib.byteCells_length, bs_size]; omega) (Nat.le_of_lt h.lt)).mono ?_
 rintro e W' ⟨rfl, h1, h2, h3⟩
 refine ⟨by rw [bs_size], ⟨h.below.trans (h2.mono h.ge), h.ge, ?_⟩⟩
 rw [Lib.byteCells_append]; exact h1
theorem npN (n : Int) (hn : 0 ≤ n ∧ n < 18446744073709551616) (w : World) : Calls Tryd.prog 42 #[.int .u64 n] w fun e w' => e = .returned (.string (bs (enc n.toNat))) ∧ Below w.heap.size w w' :=
 num_Put.calls 10 n _ w (by have h := put_f (n := n.toNat) (k := 10) (by omega) (by omega); rwa [Int.toNat_of_nonneg hn.1] at h)
set_option maxHeartbeats 4000000 in
set_option maxRecDepth 100000 in
theorem mark_numbers.calls (A0 : Option Addr) (c0 : Nat) (l0 : List Int) (r : ByteArray) (w : World) (hr0 : Kd.C (Kd.int .u64) w A0 l0.length l0) (hc0 : l0.length ≤ c0) (h : mark_numbers.f l0 = some r) :
  Calls Tryd.prog 23 #[.slice A0 l0.length c0] w fun e w' => e = .returned (.string r) ∧ Below w.heap.size w w' := by
 unfold mark_numbers.f at h
 by_cases hk : l0.length ≤ 1000 ∧ ∀ x ∈ l0, 0 ≤ x ∧ x < 18446744073709551616
 ·rw [if_pos hk] at h
  obtain rfl := Option.some.inj h
  clear h
  obtain ⟨hlen, hwf⟩ := hk
  have HR := Lib.hid hr0
  have HW := Lib.hid hwf
  clear hr0 hwf
  obtain ⟨n, hn⟩ : ∃ n, l0.length = n := ⟨_, rfl⟩
  have HN := Lib.hid hn
  rw [hn] at hlen hc0 ⊢
  clear hn
  go_enter Tryd.func23, Tryd.ntmps23
  go_wp2
  obtain ⟨b, hbb⟩ : ∃ b, w.heap.size = b := ⟨_, rfl⟩
  have hI : InvN w b [] (w.alloc (.cells #[.pointer none, .slice none 0 0] 84)) := ⟨below_alloc (Below.refl _ _) _, Nat.le_of_eq hbb, hbb ▸ Lib.fresh_isBuilder _ _ w⟩
  generalize w.alloc (.cells #[.pointer none, .slice none 0 0] 84) = W0 at hI ⊢
  rw [hbb]
  go_wp2
  go_loopg [8] (n + 1) (fun k v8 W => ∃ (i : Nat), v8 = .int .i64 (i : Int) ∧ Aside0 (k + i = n + 1 ∧ i ≤ n) ∧ Aside0 (InvN w b (encs (l0.take i)) W))
  case round =>
   obtain ⟨i, rfl, HK, HB⟩ := hrel
   by_cases c : i < n
   ·have cb := decide_eq_true (show (i : Int) < (n : Int) by omega)
    have cp : (0 : Int) ≤ (i : Int) := by omega
    have cl : (i : Int) < (n : Int) := by omega
    have c1 : i < l0.length := by have := HN.out; omega
    obtain ⟨a6, e6, hy⟩ := Kd.at_int HR.out (i : Int) (by omega) (by omega)
    cases e6
    have hrd : rd l0 (i : Int) = l0[i] := by unfold rd; rw [Int.toNat_natCast, List.getD_eq_getElem?_getD, List.getElem?_eq_getElem c1]; rfl
    rw [hrd] at hy
    have hx := HW.out l0[i] (List.getElem_mem _)
    have hbl := encs_len (l := l0.take i) (fun p hp => HW.out p (List.mem_of_mem_take hp))
    have htk : (l0.take i).length ≤ 1000 := by rw [List.length_take]; omega
    have HS := Lib.hid (encs_snoc l0 i c1)
    have hel := enc_len10 (n := l0[i].toNat) (by omega)
    replace hy := HB.out.cell hy
    rw [Int.toNat_natCast] at hy
    obtain ⟨s, hs⟩ : ∃ s, encs (l0.take i) = s := ⟨_, rfl⟩
    have hsl : s.length ≤ 10000 := by rw [← hs]; omega
    have HSS := Lib.hid hs
    have hB : InvN w b s wr := hs ▸ HB.out
    obtain ⟨x, hxx⟩ : ∃ x, l0[i] = x := ⟨_, rfl⟩
    rw [hxx] at hy hx hel
    have HX := Lib.hid hxx
    clear HB hs hbl htk hrd hxx
    go_wp2_with (first
     | (go_at_call 42; refine (npN x hx _).mono ?_; rintro e w2 ⟨rfl, hb2⟩; have n0_ := InvN.step (by first | exact hB | exact hB.drew) hb2; clear hB hb2; have hB := n0_; clear n0_)
     | (go_at_call 41; refine (InvN.write (by first | exact hB | exact hB.drew) _ (enc x.toNat) rfl (by omega)).mono ?_; rintro e w2 ⟨rfl, hI2⟩; clear hB; have hB := hI2; clear hI2))
    go_roundg (gk - 1)
    case measure => have := HK.out; omega
    case rel =>
     refine ⟨i + 1, ?_, ⟨?_⟩, ⟨?_⟩⟩
     ·first | rfl | (rw [w64_id (by omega) (by omega)]; rfl)
     ·have := HK.out; omega
     ·have e := HS.out
      rw [HX.out, HSS.out] at e
      rw [e]
      first | exact hB | exact hB.drew
   ·have cb := decide_eq_false (show ¬ (i : Int) < (n : Int) by omega)
    have hi : i = l0.length := by have := HK.out; have := HN.out; omega
    have hB := HB.out
    rw [hi, List.take_length] at hB
    clear HB
    go_wp2_with (go_at_call 43; refine (Bld.string b b _ _ hB.bld (Nat.le_of_lt hB.lt)).mono ?_; rintro e w5 ⟨rfl, hb5⟩)
    go_ret
    exact ⟨rfl, hB.below.trans (hb5.mono hB.ge)⟩
  case atStart =>
   refine ⟨0, rfl, ⟨by omega⟩, ⟨?_⟩⟩
   exact hI
 ·rw [if_neg hk] at h; cases h
end Go.Proofs.YtmbigoeldobaiaaDoor.XMrk
