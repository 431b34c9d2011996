/- The plain law of chapter 1: numbers as bytes, as lists of bytes. Conditions: none. -/
import Derived.Laws.BitsLemmas
import Derived.Laws.BytesArg
import Derived.RowKit
import Derived.Test.YthhmpjapnkilcaaDoorWRest
namespace Go.Proofs.YthhmpjapnkilcaaDoor.Num
open Go.RowKit Go.Proofs.YthhmpjapnkilcaaDoorW.PrintWords Go.Proofs.YthhmpjapnkilcaaDoorW.PrintMore

/-! ### 1. Texts as lists of bytes -/
def bs (l : List UInt8) : ByteArray := ⟨l.toArray⟩
def ls (s : ByteArray) : List UInt8 := s.data.toList
theorem bs_ls (s : ByteArray) : bs (ls s) = s := rfl
theorem ls_bs (l : List UInt8) : ls (bs l) = l := rfl
theorem bs_size (l : List UInt8) : (bs l).size = l.length := by simp [bs, ByteArray.size]
theorem bs_toList (l : List UInt8) : (bs l).toList = l := by rw [ByteArray.toList_eq]; rfl
theorem bs_list (s : ByteArray) : ∃ l, s = bs l := ⟨ls s, (bs_ls s).symm⟩
/-- Not by rfl: so that the kernel is handed a step, and no unfolding. -/
theorem bsome {α β : Type} (a : α) (f : α → Option β) : (some a).bind f = f a := (Option.bind_some a f).trans rfl

/-! ### 2. Arithmetic -/
theorem u64_wrap (x : Int) : IntKind.u64.wrap x = x % 18446744073709551616 := by simp [IntKind.wrap, IntKind.bits, IntKind.signed]
theorem u64_id {x : Int} (h0 : 0 ≤ x) (h1 : x < 18446744073709551616) : IntKind.u64.wrap x = x := by rw [u64_wrap]; omega
theorem w64_id {x : Int} (h0 : -9223372036854775808 ≤ x) (h1 : x < 9223372036854775808) : wrap64 x = x := by unfold wrap64; omega
theorem wf_i64 {x : Int} (h : (Lit.int .i64 x).wf = true) : -9223372036854775808 ≤ x ∧ x < 9223372036854775808 := by
  simp [Lit.wf, IntKind.min, IntKind.max, IntKind.signed, IntKind.bits] at h; omega
/-! ### 3. A number's bytes, and back -/
def u8 (n : Nat) : UInt8 := UInt8.ofNat n
def enc (n : Nat) : List UInt8 := if n < 128 then [u8 n] else u8 (n % 128 + 128) :: enc (n / 128)
termination_by n
decreasing_by omega
def lim (i : Nat) : Nat := 2 ^ (64 - 7 * i)
def dec : Nat → List UInt8 → Option (Nat × List UInt8)
  | _, [] => none
  | i, c :: l => if i = 9 ∧ 1 < c.toNat ∨ 0 < i ∧ c.toNat = 0 then none else if c.toNat < 128 then some (c.toNat, l) else (dec (i + 1) l).map fun p => (c.toNat - 128 + 128 * p.1, p.2)
/-- What a taking tells. -/
def takeP (l : List UInt8) : Int × ByteArray × Int := match dec 0 l with | some (n, r) => ((n : Int), bs r, 0) | none => (0, bs [], 2)
/-- A signed number's number. -/
def zig (n : Int) : Nat := if 0 ≤ n then (2 * n).toNat else (-2 * n - 1).toNat
def zag (n : Nat) : Int := if n % 2 = 0 then ((n / 2 : Nat) : Int) else -((n / 2 : Nat) : Int) - 1
/-- What a taking of a signed number tells. -/
def takeIP (l : List UInt8) : Int × ByteArray × Int := match dec 0 l with | some (n, r) => (zag n, bs r, 0) | none => (0, bs [], 2)
/-- What a taking of a text tells. -/
def takeTP (l : List UInt8) (most : Int) : ByteArray × ByteArray × Int := match dec 0 l with
  | some (n, r) => if (n : Int) > mx most 0 then (bs [], bs [], 7) else if n > r.length then (bs [], bs [], 2) else (bs (r.take n), bs (r.drop n), 0)
  | none => (bs [], bs [], 2)
def encT (t : List UInt8) : List UInt8 := enc t.length ++ t

/-! ### 4. As the document has it: leading bytes, and what they come to -/
def val : List UInt8 → Nat → Nat
  | [], a => a
  | c :: l, a => (128 * val l a + c.toNat % 128) % 18446744073709551616
/-- How many bytes, ten at the most, lead on. -/
def lead (l : List UInt8) : Nat → Nat
  | 0 => 0
  | d + 1 => match l with | [] => 0 | c :: l => if 128 ≤ c.toNat then lead l d + 1 else 0
end Go.Proofs.YthhmpjapnkilcaaDoor.Num
