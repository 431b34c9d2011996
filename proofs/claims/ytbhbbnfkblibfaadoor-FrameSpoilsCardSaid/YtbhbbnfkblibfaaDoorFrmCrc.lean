/- The plain law of the sums: four bits by a table are four times one bit; a sum differs where one byte does. Conditions: none. -/
import Derived.Test.YtbhbbnfkblibfaaDoorFrmTab
import Derived.Laws.Bits64b
namespace Go.Proofs.YtbhbbnfkblibfaaDoor.Crc
open Go.Proofs.YtbhbbnfkblibfaaDoor

def nib (r : Nat) : Nat := (r / 16) ^^^ tblN.getD (r % 16) 0
def stepB (r : Nat) (b : UInt8) : Nat := nib (nib (r ^^^ b.toNat))
def crcL (r : Nat) (l : List UInt8) : Nat := l.foldl stepB r
def crcS (l : List UInt8) : Nat := 4294967295 ^^^ crcL 4294967295 l
def bit1 (r : Nat) : Nat := (r / 2) ^^^ (if r % 2 = 1 then 2197175160 else 0)

theorem tbl_lt (i : Nat) : tblN.getD i 0 < 4294967296 := by
  by_cases h : i < 16
  · have : ∀ j, j < 16 → tblN.getD j 0 < 4294967296 := by decide
    exact this i h
  · have : tblN[i]? = none := List.getElem?_eq_none (by simp [tblN]; omega)
    rw [List.getD_eq_getElem?_getD, this]; decide
theorem xor_lt {a b : Nat} (ha : a < 4294967296) (hb : b < 4294967296) : a ^^^ b < 4294967296 := Nat.xor_lt_two_pow (n := 32) ha hb
theorem nib_lt {r : Nat} (h : r < 4294967296) : nib r < 4294967296 := xor_lt (by omega) (tbl_lt _)
theorem byte_lt (b : UInt8) : b.toNat < 256 := b.toNat_lt
theorem stepB_lt {r : Nat} (h : r < 4294967296) (b : UInt8) : stepB r b < 4294967296 := nib_lt (nib_lt (xor_lt h (Nat.lt_trans (byte_lt b) (by decide))))
theorem crcL_lt : ∀ {r : Nat} (l : List UInt8), r < 4294967296 → crcL r l < 4294967296
  | _, [], h => h
  | _, b :: l, h => crcL_lt l (stepB_lt h b)
theorem crcS_lt (l : List UInt8) : crcS l < 4294967296 := xor_lt (by decide) (crcL_lt l (by decide))
theorem crcL_app (r : Nat) (l m : List UInt8) : crcL r (l ++ m) = crcL (crcL r l) m := List.foldl_append
theorem crcL_snoc (r : Nat) (l : List UInt8) (b : UInt8) : crcL r (l ++ [b]) = stepB (crcL r l) b := by rw [crcL_app]; rfl
theorem crcL_take (r : Nat) (l : List UInt8) (i : Nat) (h : i < l.length) : crcL r (l.take (i + 1)) = stepB (crcL r (l.take i)) l[i] := by
  rw [List.take_succ_eq_append_getElem h, crcL_snoc]

/-! ### bits of u32 -/
theorem wrap_u32n (n : Int) : IntKind.u32.wrap n = n % 4294967296 := by simp [IntKind.wrap, IntKind.bits, IntKind.signed]
theorem bits_xor_u32 (a b : Nat) (ha : a < 4294967296) (hb : b < 4294967296) : bits .xor .u32 (a : Int) (b : Int) = ((a ^^^ b : Nat) : Int) := by
  have hx : a ^^^ b < 2 ^ 32 := Nat.xor_lt_two_pow (by omega) (by omega)
  have h1 : (BitVec.ofInt 32 (a : Int)).toNat = a := by
    rw [BitVec.ofInt_natCast, BitVec.toNat_ofNat]; exact Nat.mod_eq_of_lt (by omega)
  have h2 : (BitVec.ofInt 32 (b : Int)).toNat = b := by
    rw [BitVec.ofInt_natCast, BitVec.toNat_ofNat]; exact Nat.mod_eq_of_lt (by omega)
  show IntKind.u32.wrap ((BitVec.ofInt 32 (a : Int) ^^^ BitVec.ofInt 32 (b : Int)).toNat : Int) = _
  rw [BitVec.toNat_xor, h1, h2, wrap_u32n]
  omega
theorem and15 (a : Nat) (ha : a < 4294967296) : bits .and .u32 (a : Int) 15 = ((a % 16 : Nat) : Int) := by
  have h1 : (BitVec.ofInt 32 (a : Int)).toNat = a := by
    rw [BitVec.ofInt_natCast, BitVec.toNat_ofNat]; exact Nat.mod_eq_of_lt (by omega)
  have h2 : (BitVec.ofInt 32 15).toNat = 15 := by decide
  show IntKind.u32.wrap ((BitVec.ofInt 32 (a : Int) &&& BitVec.ofInt 32 15).toNat : Int) = _
  rw [BitVec.toNat_and, h1, h2, wrap_u32n, show (15 : Nat) = 2 ^ 4 - 1 by decide, Nat.and_two_pow_sub_one_eq_mod]
  omega

/-! ### a nibble is four bits -/
theorem xl {a b c : Nat} (h : a ^^^ b = a ^^^ c) : b = c := by
  have := congrArg (a ^^^ ·) h
  simpa [← Nat.xor_assoc] using this
theorem xr {a b c : Nat} (h : a ^^^ c = b ^^^ c) : a = b := by rw [Nat.xor_comm a, Nat.xor_comm b] at h; exact xl h
theorem bit1_xor (a b : Nat) : bit1 (a ^^^ b) = bit1 a ^^^ bit1 b := by
  unfold bit1
  have h2 : (a ^^^ b) / 2 = a / 2 ^^^ b / 2 := by
    have := Nat.shiftRight_xor_distrib (i := 1) (a := a) (b := b)
    simpa [Nat.shiftRight_eq_div_pow] using this
  have hm : (a ^^^ b) % 2 = a % 2 ^^^ b % 2 := by
    have := Nat.xor_mod_two_pow (a := a) (b := b) (n := 1)
    simpa using this
  rw [h2, hm]
  rcases Nat.mod_two_eq_zero_or_one a with ea | ea <;> rcases Nat.mod_two_eq_zero_or_one b with eb | eb <;> rw [ea, eb] <;> simp
  · rw [Nat.xor_assoc]
  · rw [Nat.xor_assoc, Nat.xor_comm (b / 2), ← Nat.xor_assoc]
  · rw [Nat.xor_comm (b / 2) 2197175160, ← Nat.xor_assoc, Nat.xor_assoc (a / 2) 2197175160 2197175160, Nat.xor_self, Nat.xor_zero]
def bits4 (r : Nat) : Nat := bit1 (bit1 (bit1 (bit1 r)))
theorem bits4_xor (a b : Nat) : bits4 (a ^^^ b) = bits4 a ^^^ bits4 b := by simp only [bits4, bit1_xor]
theorem bit1_even (q : Nat) : bit1 (2 * q) = q := by
  unfold bit1
  rw [show 2 * q / 2 = q by omega, if_neg (by omega), Nat.xor_zero]
theorem bits4_16 (q : Nat) : bits4 (16 * q) = q := by
  unfold bits4
  rw [show 16 * q = 2 * (2 * (2 * (2 * q))) by omega, bit1_even, bit1_even, bit1_even, bit1_even]
theorem bits4_tbl : ∀ n, n < 16 → bits4 n = tblN.getD n 0 := by decide +kernel
theorem split16 (r : Nat) : r = (16 * (r / 16)) ^^^ (r % 16) := by
  apply Nat.eq_of_testBit_eq
  intro i
  rw [Nat.testBit_xor, show 16 * (r / 16) = (r / 16) <<< 4 by rw [Nat.shiftLeft_eq]; omega, show r % 16 = r % 2 ^ 4 from rfl, Nat.testBit_mod_two_pow, Nat.testBit_shiftLeft, show r / 16 = r >>> 4 by rw [Nat.shiftRight_eq_div_pow], Nat.testBit_shiftRight]
  by_cases h : 4 ≤ i
  · simp [h, show ¬ i < 4 by omega, show 4 + (i - 4) = i by omega]
  · simp [h, show i < 4 by omega]
theorem nib_bits (r : Nat) : nib r = bits4 r := by
  have h := split16 r
  conv => rhs; rw [h]
  rw [bits4_xor, bits4_16, bits4_tbl _ (Nat.mod_lt _ (by decide))]
  rfl
def bits8 (r : Nat) : Nat := bit1 (bit1 (bit1 (bit1 (bit1 (bit1 (bit1 (bit1 r)))))))
theorem stepB_bits (r : Nat) (b : UInt8) : stepB r b = bits8 (r ^^^ b.toNat) := by
  unfold stepB; rw [nib_bits, nib_bits]; rfl

/-! ### a byte that is another makes another sum -/
theorem bit1_top {r : Nat} (h : r < 4294967296) : (2147483648 ≤ bit1 r ↔ r % 2 = 1) := by
  unfold bit1
  split
  · rename_i h1
    refine ⟨fun _ => h1, fun _ => ?_⟩
    have h3 : ((r / 2) ^^^ 2197175160).testBit 31 = true := by
      rw [Nat.testBit_xor, Nat.testBit_lt_two_pow (show r / 2 < 2 ^ 31 by omega)]
      decide
    exact Nat.ge_two_pow_of_testBit h3
  · rename_i h1
    rw [Nat.xor_zero]
    constructor
    · intro h2; omega
    · intro h2; exact absurd h2 h1
theorem bit1_inj {a b : Nat} (ha : a < 4294967296) (hb : b < 4294967296) (h : bit1 a = bit1 b) : a = b := by
  have e : (a % 2 = 1 ↔ b % 2 = 1) := by rw [← bit1_top ha, ← bit1_top hb, h]
  unfold bit1 at h
  have h2 : a / 2 = b / 2 := by
    by_cases q : a % 2 = 1
    · rw [if_pos q, if_pos (e.1 q)] at h
      exact xr h
    · rw [if_neg q, if_neg (fun z => q (e.2 z))] at h
      simpa using h
  have h3 : a % 2 = b % 2 := by
    rcases Nat.mod_two_eq_zero_or_one a with x | x <;> rcases Nat.mod_two_eq_zero_or_one b with y | y <;> first | omega | (have := e.1; omega)
  omega
theorem bit1_lt {r : Nat} (h : r < 4294967296) : bit1 r < 4294967296 := by
  unfold bit1; split
  · exact xor_lt (by omega) (by decide)
  · exact xor_lt (by omega) (by decide)
theorem bits8_inj {a b : Nat} (ha : a < 4294967296) (hb : b < 4294967296) (h : bits8 a = bits8 b) : a = b := by
  unfold bits8 at h
  repeat first | exact bit1_inj ha hb h | replace h := bit1_inj (by repeat (first | exact ha | apply bit1_lt)) (by repeat (first | exact hb | apply bit1_lt)) h
theorem stepB_inj {a b : Nat} (c : UInt8) (ha : a < 4294967296) (hb : b < 4294967296) (h : stepB a c = stepB b c) : a = b := by
  rw [stepB_bits, stepB_bits] at h
  have hc : c.toNat < 4294967296 := Nat.lt_trans (byte_lt c) (by decide)
  exact xr (bits8_inj (xor_lt ha hc) (xor_lt hb hc) h)
theorem stepB_inj2 {a : Nat} {c d : UInt8} (ha : a < 4294967296) (h : stepB a c = stepB a d) : c = d := by
  rw [stepB_bits, stepB_bits] at h
  have hc : c.toNat < 4294967296 := Nat.lt_trans (byte_lt c) (by decide)
  have hd : d.toNat < 4294967296 := Nat.lt_trans (byte_lt d) (by decide)
  exact UInt8.toNat_inj.1 (xl (bits8_inj (xor_lt ha hc) (xor_lt ha hd) h))
theorem crcL_inj : ∀ (l : List UInt8) {a b : Nat}, a < 4294967296 → b < 4294967296 → crcL a l = crcL b l → a = b
  | [], _, _, _, _, h => h
  | c :: l, _, _, ha, hb, h => stepB_inj c ha hb (crcL_inj l (stepB_lt ha c) (stepB_lt hb c) h)
theorem crcS_one {l m : List UInt8} {c d : UInt8} (h : crcS (l ++ c :: m) = crcS (l ++ d :: m)) : c = d := by
  have h1 := xl h
  rw [crcL_app, crcL_app] at h1
  exact stepB_inj2 (crcL_lt l (by decide)) (crcL_inj m (stepB_lt (crcL_lt l (by decide)) c) (stepB_lt (crcL_lt l (by decide)) d) h1)

/-! ### the four bytes -/
def four (n : Nat) : List UInt8 := [UInt8.ofNat n, UInt8.ofNat (n / 256), UInt8.ofNat (n / 65536), UInt8.ofNat (n / 16777216)]
theorem four_len (n : Nat) : (four n).length = 4 := rfl
theorem four_inj {a b : Nat} (ha : a < 4294967296) (hb : b < 4294967296) (h : four a = four b) : a = b := by
  unfold four at h
  simp only [List.cons.injEq, and_true] at h
  obtain ⟨h0, h1, h2, h3⟩ := h
  have e0 := congrArg UInt8.toNat h0; have e1 := congrArg UInt8.toNat h1; have e2 := congrArg UInt8.toNat h2; have e3 := congrArg UInt8.toNat h3
  simp only [UInt8.toNat_ofNat'] at e0 e1 e2 e3
  omega
end Go.Proofs.YtbhbbnfkblibfaaDoor.Crc
