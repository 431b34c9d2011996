/- The plain law of chapter 1: numbers as bytes, as lists of bytes. Conditions: none. -/
import Derived.Laws.BitsLemmas
import Derived.Laws.BytesArg
import Derived.RowKit
import Derived.Test.YtolbicncdookmaaWRest
namespace Go.Proofs.Ytolbicncdookmaa.Num
open Go.RowKit Go.Proofs.YtolbicncdookmaaW.PrintWords Go.Proofs.YtolbicncdookmaaW.PrintMore

/-! ### 1. Texts as lists of bytes -/
def bs (l : List UInt8) : ByteArray := ⟨l.toArray⟩
def ls (s : ByteArray) : List UInt8 := s.data.toList
theorem bs_ls (s : ByteArray) : bs (ls s) = s := rfl
theorem ls_bs (l : List UInt8) : ls (bs l) = l := rfl
theorem bs_size (l : List UInt8) : (bs l).size = l.length := by simp [bs, ByteArray.size]
theorem bs_toList (l : List UInt8) : (bs l).toList = l := by rw [ByteArray.toList_eq]; rfl
theorem bs_inj {l m : List UInt8} (h : bs l = bs m) : l = m := by have := congrArg ls h; exact this
theorem bs_app (l m : List UInt8) : bs l ++ bs m = bs (l ++ m) := by
  apply ByteArray.ext
  simp [bs]
theorem bs_ext (l : List UInt8) (a b : Nat) : (bs l).extract a b = bs ((l.take b).drop a) := by
  apply ByteArray.ext
  simp [bs, ByteArray.data_extract, List.drop_take]
theorem bs_drop (l : List UInt8) (a : Nat) : (bs l).extract a (bs l).size = bs (l.drop a) := by
  rw [bs_ext, bs_size, List.take_length]
theorem bs_take (l : List UInt8) (b : Nat) : (bs l).extract 0 b = bs (l.take b) := by
  rw [bs_ext, List.drop_zero]
theorem bs_nil : (⟨#[]⟩ : ByteArray) = bs [] := rfl
theorem bs_list (s : ByteArray) : ∃ l, s = bs l := ⟨ls s, (bs_ls s).symm⟩
theorem bt_bs (l : List UInt8) (i : Nat) (h : i < l.length) : bt (bs l) (i : Int) = ((l[i]'h).toNat : Int) := by
  unfold bt
  have h' : (i : Int).toNat < (bs l).size := by rw [bs_size]; simpa using h
  rw [dif_pos h']
  simp [bs, ByteArray.getElem_eq_getElem_data]
theorem strOfNums_bs (xs : List Int) : strOfNums xs = bs (xs.map fun n => UInt8.ofNat n.toNat) := rfl

/-- Not by rfl: so that the kernel is handed a step, and no unfolding. -/
theorem bsome {α β : Type} (a : α) (f : α → Option β) : (some a).bind f = f a := (Option.bind_some a f).trans rfl

/-! ### 2. Arithmetic -/
theorem u64_wrap (x : Int) : IntKind.u64.wrap x = x % 18446744073709551616 := by simp [IntKind.wrap, IntKind.bits, IntKind.signed]
theorem u64_id {x : Int} (h0 : 0 ≤ x) (h1 : x < 18446744073709551616) : IntKind.u64.wrap x = x := by rw [u64_wrap]; omega
theorem w64_id {x : Int} (h0 : -9223372036854775808 ≤ x) (h1 : x < 9223372036854775808) : wrap64 x = x := by unfold wrap64; omega
theorem wf_u64 {x : Int} (h : (Lit.int .u64 x).wf = true) : 0 ≤ x ∧ x < 18446744073709551616 := by
  simp [Lit.wf, IntKind.min, IntKind.max, IntKind.signed, IntKind.bits] at h; omega
theorem wf_i64 {x : Int} (h : (Lit.int .i64 x).wf = true) : -9223372036854775808 ≤ x ∧ x < 9223372036854775808 := by
  simp [Lit.wf, IntKind.min, IntKind.max, IntKind.signed, IntKind.bits] at h; omega
theorem wraps_u64 (n : Int) (h₀ : 0 ≤ n) (h₁ : n < 2 ^ 64) : IntKind.u64.wrap n = n := u64_id h₀ (by simpa using h₁)
theorem or_low (v c m : Nat) (hv : v < 2 ^ m) (hs : v + c * 2 ^ m < 2 ^ 64) : Go.bits .or .u64 (v : Int) ((c * 2 ^ m : Nat) : Int) = ((v + c * 2 ^ m : Nat) : Int) := by
  rw [(bits_nat .u64 64 (by decide) wraps_u64 v (c * 2 ^ m) (by omega) (by omega)).2, Nat.or_comm, Nat.mul_comm c, ← Nat.two_pow_add_eq_or_of_lt hv, Nat.add_comm]
theorem and127 (c : Nat) (h : c < 256) : Go.bits .and .u64 (c : Int) 127 = ((c % 128 : Nat) : Int) := by
  have := bits_mask .u64 64 (by decide) wraps_u64 7 (by decide) (c : Int) (by omega) (by omega)
  simpa using this
theorem and1 (n : Nat) (h : n < 18446744073709551616) : Go.bits .and .u64 (n : Int) 1 = ((n % 2 : Nat) : Int) := by
  have := bits_mask .u64 64 (by decide) wraps_u64 1 (by decide) (n : Int) (by omega) (by omega)
  simpa using this
theorem or128 (a : Nat) (h : a < 256) : Go.bits .or .u8 (a : Int) 128 = ((a % 128 + 128 : Nat) : Int) := by
  rw [show (128 : Int) = ((128 : Nat) : Int) from rfl, (bits_nat .u8 8 (by decide) wraps_u8 a 128 (by omega) (by omega)).2]
  have : ∀ a < 256, a ||| 128 = a % 128 + 128 := by decide +kernel
  rw [this a h]
theorem xor0 (k : IntKind) (x : Nat) (hk : k = .u64 ∧ x < 18446744073709551616 ∨ k = .i64 ∧ x < 9223372036854775808) : Go.bits .xor k (x : Int) 0 = x := by
  have e : x < 18446744073709551616 → (BitVec.ofInt 64 (x : Int) ^^^ BitVec.ofInt 64 0).toNat = x := fun h => by
    rw [show BitVec.ofInt 64 0 = 0#64 from rfl, BitVec.xor_zero, BitVec.ofInt_natCast, BitVec.toNat_ofNat]; omega
  rcases hk with ⟨rfl, h⟩ | ⟨rfl, h⟩
  · show IntKind.wrap .u64 (((BitVec.ofInt 64 (x : Int) ^^^ BitVec.ofInt 64 0).toNat : Nat) : Int) = _
    rw [e h]; exact u64_id (by omega) (by omega)
  · show IntKind.wrap .i64 (((BitVec.ofInt 64 (x : Int) ^^^ BitVec.ofInt 64 0).toNat : Nat) : Int) = _
    rw [e (by omega), IntKind.wrap_i64]; omega
theorem xor_ones (x : Nat) (h : x < 18446744073709551616) (y : Int) (hy : BitVec.ofInt 64 y = BitVec.allOnes 64) : (BitVec.ofInt 64 (x : Int) ^^^ BitVec.ofInt 64 y).toNat = 18446744073709551615 - x := by
  rw [hy, BitVec.xor_allOnes, BitVec.toNat_not, BitVec.ofInt_natCast, BitVec.toNat_ofNat]; omega
theorem xor_u64 (x : Nat) (h : x < 18446744073709551616) : Go.bits .xor .u64 (x : Int) 18446744073709551615 = ((18446744073709551615 - x : Nat) : Int) := by
  show IntKind.wrap .u64 (((BitVec.ofInt 64 (x : Int) ^^^ BitVec.ofInt 64 18446744073709551615).toNat : Nat) : Int) = _
  rw [xor_ones x h _ (by decide)]; exact u64_id (by omega) (by omega)
theorem xor_i64 (x : Nat) (h : x < 9223372036854775808) : Go.bits .xor .i64 (x : Int) (-1) = -(x : Int) - 1 := by
  show IntKind.wrap .i64 (((BitVec.ofInt 64 (x : Int) ^^^ BitVec.ofInt 64 (-1)).toNat : Nat) : Int) = _
  rw [xor_ones x (by omega) _ (by decide), IntKind.wrap_i64]; omega

/-! ### 3. A number's bytes, and back -/
def u8 (n : Nat) : UInt8 := UInt8.ofNat n
theorem u8_toNat {n : Nat} (h : n < 256) : (u8 n).toNat = n := by simp [u8, UInt8.toNat_ofNat']; omega
theorem u8_of (c : UInt8) : u8 c.toNat = c := by simp [u8]
theorem u8_mod (n : Nat) : u8 (n % 256) = u8 n := by apply UInt8.toNat_inj.1; simp [u8]
def enc (n : Nat) : List UInt8 := if n < 128 then [u8 n] else u8 (n % 128 + 128) :: enc (n / 128)
termination_by n
decreasing_by omega
theorem enc_small {n : Nat} (h : n < 128) : enc n = [u8 n] := by rw [enc, if_pos h]
theorem enc_big {n : Nat} (h : ¬ n < 128) : enc n = u8 (n % 128 + 128) :: enc (n / 128) := by rw [enc, if_neg h]
theorem enc_pos (n : Nat) : 0 < (enc n).length := by rw [enc]; split <;> simp
theorem enc_len : ∀ (d n : Nat), n < 128 ^ (d + 1) → (enc n).length ≤ d + 1
  | 0, n, h => by rw [enc_small (by simpa using h)]; simp
  | d + 1, n, h => by
    by_cases hn : n < 128
    · rw [enc_small hn]; simp
    · rw [enc_big hn, List.length_cons]
      have := enc_len d (n / 128) (by rw [Nat.pow_succ] at h; exact Nat.div_lt_of_lt_mul (by omega))
      omega
theorem enc_len10 {n : Nat} (h : n < 18446744073709551616) : (enc n).length ≤ 10 := enc_len 9 n (by omega)

def lim (i : Nat) : Nat := 2 ^ (64 - 7 * i)
theorem lim_succ : ∀ i, i < 9 → lim i = 128 * lim (i + 1) := by decide
theorem lim0 : lim 0 = 18446744073709551616 := by decide
theorem lim9 : lim 9 = 2 := by decide
def dec : Nat → List UInt8 → Option (Nat × List UInt8)
  | _, [] => none
  | i, c :: l => if i = 9 ∧ 1 < c.toNat ∨ 0 < i ∧ c.toNat = 0 then none else if c.toNat < 128 then some (c.toNat, l) else (dec (i + 1) l).map fun p => (c.toNat - 128 + 128 * p.1, p.2)
theorem dec_sound : ∀ (l : List UInt8) (i n : Nat) (r : List UInt8), i ≤ 9 → dec i l = some (n, r) → l = enc n ++ r ∧ n < lim i ∧ (0 < i → 0 < n)
  | [], i, n, r, _, h => by simp [dec] at h
  | c :: l, i, n, r, hi, h => by
    rw [dec] at h
    split at h
    · cases h
    · rename_i hc
      split at h
      · rename_i hlt
        simp only [Option.some.injEq, Prod.mk.injEq] at h
        obtain ⟨rfl, rfl⟩ := h
        refine ⟨by rw [enc_small hlt, u8_of]; rfl, ?_, fun h0 => by omega⟩
        rcases Nat.lt_or_ge i 9 with h9 | h9
        · rw [lim_succ i h9]
          have : 0 < lim (i + 1) := Nat.two_pow_pos _
          omega
        · have : i = 9 := by omega
          subst this
          rw [lim9]; omega
      · rename_i hge
        obtain ⟨⟨m, q⟩, hm, he⟩ := Option.map_eq_some_iff.1 h
        simp only [Prod.mk.injEq] at he
        obtain ⟨rfl, rfl⟩ := he
        have h9 : i < 9 := by omega
        obtain ⟨e, hlt, hpos⟩ := dec_sound l (i + 1) m q (by omega) hm
        have hp := hpos (by omega)
        have hc2 := c.toNat_lt
        refine ⟨?_, by rw [lim_succ i h9]; omega, fun _ => by omega⟩
        rw [enc_big (by omega), show (c.toNat - 128 + 128 * m) / 128 = m by omega, show (c.toNat - 128 + 128 * m) % 128 + 128 = c.toNat by omega, u8_of, e]; rfl
theorem dec_enc : ∀ (d i n : Nat) (r : List UInt8), i + d = 9 → n < lim i → (0 < i → 0 < n) → dec i (enc n ++ r) = some (n, r)
  | d, i, n, r, hi, hn, hp => by
    by_cases h : n < 128
    · rw [enc_small h]
      show dec i (u8 n :: r) = _
      rw [dec, u8_toNat (by omega), if_neg, if_pos h]
      rintro (⟨rfl, h1⟩ | ⟨h1, h2⟩)
      · rw [lim9] at hn; omega
      · have := hp h1; omega
    · match d, hi with
      | 0, hi => have : i = 9 := by omega
                 subst this; rw [lim9] at hn; omega
      | d + 1, hi =>
        rw [enc_big h]
        show dec i (u8 (n % 128 + 128) :: (enc (n / 128) ++ r)) = _
        rw [dec, u8_toNat (by omega), if_neg (by omega), if_neg (by omega), dec_enc d (i + 1) (n / 128) r (by omega) (by have := lim_succ i (by omega); omega) (fun _ => by omega)]
        simp only [Option.map_some, Option.some.injEq, Prod.mk.injEq, and_true]
        omega
theorem dec_put {n : Nat} (h : n < 18446744073709551616) (r : List UInt8) : dec 0 (enc n ++ r) = some (n, r) := dec_enc 9 0 n r rfl (by rw [lim0]; exact h) (by omega)
theorem dec_some {l : List UInt8} {n : Nat} {r : List UInt8} (h : dec 0 l = some (n, r)) : l = enc n ++ r ∧ n < 18446744073709551616 := by
  have := dec_sound l 0 n r (by omega) h
  rw [lim0] at this
  exact ⟨this.1, this.2.1⟩
theorem enc_inj {m n : Nat} (hm : m < 18446744073709551616) (hn : n < 18446744073709551616) {r q : List UInt8} (h : enc m ++ r = enc n ++ q) : m = n ∧ r = q := by
  have a := dec_put hm r
  rw [h, dec_put hn q] at a
  simp only [Option.some.injEq, Prod.mk.injEq] at a
  exact ⟨a.1.symm, a.2.symm⟩
/-- What a taking tells. -/
def takeP (l : List UInt8) : Int × ByteArray × Int := match dec 0 l with | some (n, r) => ((n : Int), bs r, 0) | none => (0, bs [], 2)
theorem takeP_put {n : Nat} (h : n < 18446744073709551616) (r : List UInt8) : takeP (enc n ++ r) = ((n : Int), bs r, 0) := by unfold takeP; rw [dec_put h]
theorem takeP_none {l : List UInt8} (h : dec 0 l = none) : takeP l = (0, bs [], 2) := by unfold takeP; rw [h]
theorem takeP_cases (l : List UInt8) : (∃ n r, l = enc n ++ r ∧ n < 18446744073709551616 ∧ takeP l = ((n : Int), bs r, 0)) ∨ (takeP l = (0, bs [], 2) ∧ dec 0 l = none) := by
  rcases h : dec 0 l with _ | ⟨n, r⟩
  · exact .inr ⟨takeP_none h, rfl⟩
  · obtain ⟨e, hn⟩ := dec_some h
    exact .inl ⟨n, r, e, hn, by unfold takeP; rw [h]⟩
/-- What is no number. -/
theorem dec_none {l : List UInt8} (h : ∀ n r, n < 18446744073709551616 → l ≠ enc n ++ r) : dec 0 l = none := by
  rcases e : dec 0 l with _ | ⟨n, r⟩
  · rfl
  · obtain ⟨e1, e2⟩ := dec_some e
    exact absurd e1 (h n r e2)
/-- A signed number's number. -/
def zig (n : Int) : Nat := if 0 ≤ n then (2 * n).toNat else (-2 * n - 1).toNat
def zag (n : Nat) : Int := if n % 2 = 0 then ((n / 2 : Nat) : Int) else -((n / 2 : Nat) : Int) - 1
theorem zig_lt {n : Int} (h : -9223372036854775808 ≤ n ∧ n < 9223372036854775808) : zig n < 18446744073709551616 := by unfold zig; split <;> omega
theorem zag_zig (n : Int) : zag (zig n) = n := by unfold zag zig; split <;> split <;> omega
theorem zig_zag (n : Nat) : zig (zag n) = n := by unfold zag zig; split <;> split <;> omega
theorem zag_rng {n : Nat} (h : n < 18446744073709551616) : -9223372036854775808 ≤ zag n ∧ zag n < 9223372036854775808 := by unfold zag; split <;> omega
theorem zig_inj {m n : Int} (h : zig m = zig n) : m = n := by rw [← zag_zig m, h, zag_zig]
/-- What a taking of a signed number tells. -/
def takeIP (l : List UInt8) : Int × ByteArray × Int := match dec 0 l with | some (n, r) => (zag n, bs r, 0) | none => (0, bs [], 2)
theorem takeIP_put {n : Int} (h : -9223372036854775808 ≤ n ∧ n < 9223372036854775808) (r : List UInt8) : takeIP (enc (zig n) ++ r) = (n, bs r, 0) := by
  unfold takeIP; rw [dec_put (zig_lt h)]; simp [zag_zig]
/-- What a taking of a text tells. -/
def takeTP (l : List UInt8) (most : Int) : ByteArray × ByteArray × Int := match dec 0 l with
  | some (n, r) => if (n : Int) > mx most 0 then (bs [], bs [], 7) else if n > r.length then (bs [], bs [], 2) else (bs (r.take n), bs (r.drop n), 0)
  | none => (bs [], bs [], 2)
def encT (t : List UInt8) : List UInt8 := enc t.length ++ t

/-! ### 4. As the document has it: leading bytes, and what they come to -/
def val : List UInt8 → Nat → Nat
  | [], a => a
  | c :: l, a => (128 * val l a + c.toNat % 128) % 18446744073709551616
theorem val_app (l m : List UInt8) (a : Nat) : val (l ++ m) a = val l (val m a) := by
  induction l with
  | nil => rfl
  | cons c l ih => simp only [List.cons_append, val, ih]
theorem val_enc : ∀ (n : Nat), n < 18446744073709551616 → val (enc n) 0 = n := by
  intro n
  induction n using Nat.strongRecOn with
  | _ n ih =>
    intro h
    by_cases hn : n < 128
    · rw [enc_small hn]; simp only [val]; rw [u8_toNat (by omega)]; omega
    · rw [enc_big hn]; simp only [val]; rw [ih (n / 128) (by omega) (by omega), u8_toNat (by omega)]; omega
/-- How many bytes, ten at the most, lead on. -/
def lead (l : List UInt8) : Nat → Nat
  | 0 => 0
  | d + 1 => match l with | [] => 0 | c :: l => if 128 ≤ c.toNat then lead l d + 1 else 0
theorem lead_le : ∀ (d : Nat) (l : List UInt8), lead l d ≤ d ∧ lead l d ≤ l.length
  | 0, l => by simp [lead]
  | d + 1, [] => by simp [lead]
  | d + 1, c :: l => by
    have := lead_le d l
    simp only [lead, List.length_cons]
    split <;> omega
theorem lead_enc : ∀ (d n : Nat) (r : List UInt8), (enc n).length ≤ d → lead (enc n ++ r) d + 1 = (enc n).length
  | 0, n, r, h => by have := enc_pos n; omega
  | d + 1, n, r, h => by
    by_cases hn : n < 128
    · rw [enc_small hn]; simp only [List.cons_append, lead]; rw [u8_toNat (by omega), if_neg (by omega)]; rfl
    · rw [enc_big hn] at h ⊢
      simp only [List.cons_append, lead, List.length_cons] at h ⊢
      rw [u8_toNat (by omega), if_pos (by omega), lead_enc d (n / 128) r (by omega)]
/-- The document's taking. -/
theorem doc_take (l : List UInt8) : takeP l = if l.length ≤ lead l 10 ∨ 10 ≤ lead l 10 then (0, bs [], 2) else if enc (val (l.take (lead l 10 + 1)) 0) = l.take (lead l 10 + 1) then ((val (l.take (lead l 10 + 1)) 0 : Int), bs (l.drop (lead l 10 + 1)), 0) else (0, bs [], 2) := by
  have hval : ∀ m : List UInt8, m ≠ [] → val m 0 < 18446744073709551616 := by
    intro m hm
    cases m with
    | nil => exact absurd rfl hm
    | cons c m => simp only [val]; exact Nat.mod_lt _ (by decide)
  rcases takeP_cases l with ⟨n, r, rfl, hn, ht⟩ | ⟨ht, hd⟩
  · have h10 := enc_len10 hn
    have hp := enc_pos n
    have hl := lead_enc 10 n r h10
    rw [ht, if_neg (by rw [List.length_append]; omega), hl, List.take_left', List.drop_left', val_enc n hn, if_pos rfl] <;> rfl
  · rw [ht]
    split
    · rfl
    · rename_i h
      split
      · rename_i he
        exfalso
        have hlt := hval (l.take (lead l 10 + 1)) (fun h0 => by have h1 := congrArg List.length h0; rw [List.length_take, List.length_nil] at h1; omega)
        have := dec_put hlt (l.drop (lead l 10 + 1))
        rw [he, List.take_append_drop, hd] at this
        cases this
      · rfl
end Go.Proofs.Ytolbicncdookmaa.Num
