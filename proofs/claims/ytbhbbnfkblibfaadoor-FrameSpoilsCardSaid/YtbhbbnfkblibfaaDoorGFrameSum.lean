/- crc.Add, crc.Sum and frame.sum of the given program: what they answer, where the table's cells hold the table. Conditions: those that each theorem names. -/
import Derived.Test.YtbhbbnfkblibfaaDoorXFrmx2
import Derived.Test.YtbhbbnfkblibfaaDoorFrmCrc
import Derived.Test.YtbhbbnfkblibfaaDoorNumLib
namespace Go.Proofs.YtbhbbnfkblibfaaDoor.XFrm
open Go.RowKit Go.Proofs.YtbhbbnfkblibfaaDoorW.PrintWords Go.Proofs.YtbhbbnfkblibfaaDoorW.PrintLast Go.Proofs.YtbhbbnfkblibfaaDoorW.PrintMore Go.Proofs.YtbhbbnfkblibfaaDoor.Num Go.Proofs.YtbhbbnfkblibfaaDoor.Crc
set_option linter.unusedVariables false
set_option linter.unusedSimpArgs false

def nibs : Nat → Nat → Nat
  | 0, r => r
  | j + 1, r => nib (nibs j r)
theorem nibs_lt : ∀ j {r : Nat}, r < 4294967296 → nibs j r < 4294967296
  | 0, _, h => h
  | j + 1, _, h => nib_lt (nibs_lt j h)
theorem max_not (a : Nat) (h : a < 4294967296) : bits .xor .u32 IntKind.u32.max (a : Int) = ((4294967295 ^^^ a : Nat) : Int) := by
  have e : IntKind.u32.max = ((4294967295 : Nat) : Int) := by decide
  rw [e, bits_xor_u32 _ _ (by decide) h]

set_option maxHeartbeats 8000000 in
set_option maxRecDepth 100000 in
theorem crc_Add.calls (l : List UInt8) (hl : l.length ≤ 9223372036854775807) (w : World) (hT : Tabs w) :
    Calls Tryd.prog 32 #[.int .u32 0, .string (bs l)] w fun e w' => e = .returned (.int .u32 (crcS l : Nat)) ∧ w' = w := by
  have hmax : bits .xor .u32 IntKind.u32.max 0 = ((4294967295 : Nat) : Int) := by decide
  have hsz := bs_size l
  go_enter Tryd.func32, Tryd.ntmps32
  go_wp2_with (simp only [hmax])
  go_loopg [5, 11] l.length (fun kq v5 v11 w' => ∃ i : Nat, Aside0 (i + kq = l.length) ∧ v5 = .int .u32 ((crcL 4294967295 (l.take i) : Nat) : Int) ∧ v11 = .int .i64 (i : Int) ∧ w' = w)
  case atStart => exact ⟨0, ⟨by omega⟩, rfl, rfl, rfl⟩
  case round =>
    obtain ⟨i, hi, rfl, rfl, rfl⟩ := hrel
    by_cases hlt : i < l.length
    · have c0 : decide ((i : Int) < (l.length : Int)) = true := decide_eq_true (by omega)
      have p5 : (0 ≤ (i : Int)) = True := eq_true (by omega)
      have q5 : ((i : Int) < ((bs l).size : Int)) = True := eq_true (by rw [bs_size]; omega)
      have hx5 := bt_at (bs l) i
      have hb : bt (bs l) (i : Int) = ((l[i].toNat : Nat) : Int) := bt_bs l i hlt
      go_wp2_with (simp only [hb])
      have hR : crcL 4294967295 (l.take i) < 4294967296 := crcL_lt _ (by decide)
      go_loopg [5, 20] 2 (fun kq v5 v20 w' => ∃ j : Nat, Aside0 (j + kq = 2) ∧ v5 = .int .u32 ((nibs j (crcL 4294967295 (l.take i) ^^^ l[i].toNat) : Nat) : Int) ∧ v20 = .int .i64 (j : Int) ∧ w' = wr)
      case atStart =>
        refine ⟨0, ⟨rfl⟩, ?_, rfl, rfl⟩
        have e : ((bs l)[i]'(by rw [bs_size]; exact hlt)) = l[i] := by simp [bs, ByteArray.getElem_eq_getElem_data]
        have e2 : ((l[i].toNat : Nat) : Int) % 4294967296 = ((l[i].toNat : Nat) : Int) := by have := byte_lt l[i]; omega
        simp only [e, e2]
        rw [bits_xor_u32 _ _ hR (Nat.lt_trans (byte_lt _) (by decide))]
        rfl
      case round =>
        obtain ⟨j, hj, rfl, rfl, rfl⟩ := hrel
        have hx : nibs j (crcL 4294967295 (l.take i) ^^^ l[i].toNat) < 4294967296 := nibs_lt j (xor_lt hR (Nat.lt_trans (byte_lt _) (by decide)))
        have hs : nibs (j + 1) (crcL 4294967295 (l.take i) ^^^ l[i].toNat) = nib (nibs j (crcL 4294967295 (l.take i) ^^^ l[i].toNat)) := rfl
        generalize hgx : nibs j (crcL 4294967295 (l.take i) ^^^ l[i].toNat) = x at hx hs ⊢
        have HG := Aside0.mk hgx
        clear hgx
        by_cases h2 : j < 2
        · have c2 : decide ((j : Int) < 2) = true := decide_eq_true (by omega)
          have key := and15 x hx
          have hm : x % 16 < 16 := Nat.mod_lt _ (by decide)
          have hcell := hT.cell (x % 16) hm
          have hres : bits .xor .u32 ((x : Int) / 16) ((tblN.getD (x % 16) 0 : Nat) : Int) = ((nib x : Nat) : Int) := by rw [show (x : Int) / 16 = ((x / 16 : Nat) : Int) by omega]; exact bits_xor_u32 _ _ (by omega) (tbl_lt _)
          generalize x % 16 = m at key hm hcell hres
          have HR := Aside0.mk hres
          have HS := Aside0.mk hs
          clear hres hs
          go_wp2
          go_roundg (1 - j)
          case measure => have := hj.out; omega
          case rel => exact ⟨j + 1, ⟨by have := hj.out; omega⟩, by rw [HS.out, ← HR.out, List.getD_eq_getElem?_getD], rfl, rfl⟩
        · have c2 : decide ((j : Int) < 2) = false := decide_eq_false (by omega)
          have hj2 : j = 2 := by have := hj.out; omega
          subst hj2
          have HS := Aside0.mk (crcL_take 4294967295 l i hlt)
          go_wp2
          go_roundg (l.length - i - 1)
          case measure => have := hi.out; omega
          case rel => exact ⟨i + 1, ⟨by have := hi.out; omega⟩, by rw [HS.out, ← HG.out]; rfl, rfl, rfl⟩
    · have c0 : decide ((i : Int) < (l.length : Int)) = false := decide_eq_false (by omega)
      have hil : i = l.length := by have := hi.out; omega
      subst hil
      rw [List.take_length]
      have hR : crcL 4294967295 l < 4294967296 := crcL_lt _ (by decide)
      have hm := max_not _ hR
      go_wp2_with (simp only [hm])
      go_ret
      exact ⟨rfl, rfl⟩
theorem crc_Sum.calls (l : List UInt8) (hl : l.length ≤ 9223372036854775807) (w : World) (hT : Tabs w) :
    Calls Tryd.prog 29 #[.string (bs l)] w fun e w' => e = .returned (.int .u32 (crcS l : Nat)) ∧ w' = w := by
  go_enter Tryd.func29, Tryd.ntmps29
  go_wp2_with (go_at_call 32; refine (crc_Add.calls l hl _ hT).mono ?_; rintro e w' ⟨rfl, rfl⟩)
  go_ret
  exact ⟨rfl, rfl⟩

/-! ### frame.sum: function 23 -/
def frame_sum.f (k : Nat) (a0 : Int) (a1 : ByteArray) : Option ByteArray := (num_Put.f k a0).bind fun t => if t.size + a1.size ≤ 9223372036854775807 then some (bs (four (crcS (ls (t ++ a1))))) else none
theorem frame_sum.mono : ∀ a0 a1 k, LeO (frame_sum.f k a0 a1) (frame_sum.f (k + 1) a0 a1) := by
  intro a0 a1 k
  unfold frame_sum.f
  exact LeO.bind (num_Put.mono a0 k) (fun _ => LeO.refl _)
def fourI (n : Nat) (j : Nat) : Int := ((((four n).getD j 0).toNat : Nat) : Int)

structure IsSt (w : World) (b n j : Nat) (W : World) : Prop where
  bel : Below w.heap.size w W
  ge : w.heap.size ≤ b
  set : ∀ i, i < j → W.cell? ⟨b, i, none⟩ = some (.int .u8 (fourI n i))
  rest : ∀ i, j ≤ i → i < 4 → W.cell? ⟨b, i, none⟩ = some (.int .u8 0)
  fz : ∀ i, W.frozen? ⟨b, i, none⟩ = false
theorem IsSt.put {w : World} {b n j : Nat} {W : World} (h : IsSt w b n j W) (hj : j < 4) : IsSt w b n (j + 1) (W.setCell ⟨b, j, none⟩ (.int .u8 (fourI n j))) where
  bel := h.bel.setCell h.ge _
  ge := h.ge
  set := fun i hi => by
    by_cases e : i = j
    · subst e; exact World.cell?_setCell_same _ _ _ (h.rest i (Nat.le_refl _) hj)
    · rw [World.cell?_setCell_other (h := by intro z; cases z; exact e rfl)]; exact h.set i (by omega)
  rest := fun i hi h4 => by
    rw [World.cell?_setCell_other (h := by intro z; cases z; omega)]; exact h.rest i (by omega) h4
  fz := fun i => by rw [World.frozen?_setCell]; exact h.fz i
theorem fourI_at (n j : Nat) (hj : j < 4) : (n : Int) / 2 ^ (8 * j) % 256 = fourI n j := by
  have e : ∀ m : Nat, (((UInt8.ofNat m).toNat : Nat) : Int) = (m : Int) % 256 := by intro m; simp [UInt8.toNat_ofNat']
  match j, hj with
  | 0, _ => show _ = (((UInt8.ofNat n).toNat : Nat) : Int); rw [e]; simp
  | 1, _ => show _ = (((UInt8.ofNat (n / 256)).toNat : Nat) : Int); rw [e]; simp
  | 2, _ => show _ = (((UInt8.ofNat (n / 65536)).toNat : Nat) : Int); rw [e]; simp
  | 3, _ => show _ = (((UInt8.ofNat (n / 16777216)).toNat : Nat) : Int); rw [e]; simp
theorem four_nums (n : Nat) : strOfNums [fourI n 0, fourI n 1, fourI n 2, fourI n 3] = bs (four n) := by
  rw [strOfNums_bs]
  show bs [UInt8.ofNat (fourI n 0).toNat, UInt8.ofNat (fourI n 1).toNat, UInt8.ofNat (fourI n 2).toNat, UInt8.ofNat (fourI n 3).toNat] = bs (four n)
  have e : ∀ m : Nat, UInt8.ofNat ((((UInt8.ofNat m).toNat : Nat) : Int)).toNat = UInt8.ofNat m := by intro m; rw [Int.toNat_natCast, UInt8.ofNat_toNat]
  show bs [UInt8.ofNat ((((UInt8.ofNat n).toNat : Nat) : Int)).toNat, UInt8.ofNat ((((UInt8.ofNat (n / 256)).toNat : Nat) : Int)).toNat, UInt8.ofNat ((((UInt8.ofNat (n / 65536)).toNat : Nat) : Int)).toNat, UInt8.ofNat ((((UInt8.ofNat (n / 16777216)).toNat : Nat) : Int)).toNat] = _
  rw [e, e, e, e]
  rfl

set_option maxHeartbeats 8000000 in
set_option maxRecDepth 100000 in
theorem frame_sum.calls (k : Nat) (a0 : Int) (a1 : ByteArray) (r : ByteArray) (w : World) (hT : Tabs w) (h : frame_sum.f k a0 a1 = some r) :
    Calls Tryd.prog 23 #[.int .u64 a0, .string a1] w fun e w' => e = .returned (.string r) ∧ Below w.heap.size w w' := by
  obtain ⟨t, hP, h2⟩ := Option.bind_eq_some_iff.mp h
  clear h
  by_cases hz : t.size + a1.size ≤ 9223372036854775807
  · rw [if_pos hz] at h2
    obtain rfl := Option.some.inj h2
    clear h2
    have HP := Aside0.mk hP
    clear hP
    have hz2 : (9223372036854775807 < t.size + a1.size) = False := eq_false (Nat.not_lt.2 hz)
    have hlen : (ls (t ++ a1)).length ≤ 9223372036854775807 := by
      have : (ls (t ++ a1)).length = t.size + a1.size := by rw [← bs_size, bs_ls, ByteArray.size_append]
      omega
    have HL := Aside0.mk hlen
    clear hlen hz
    have HT := Aside0.mk hT
    clear hT
    go_enter Tryd.func23, Tryd.ntmps23
    go_wp2_with (first
      | (go_at_call 22; refine (num_Put.calls k a0 t _ HP.out).mono ?_; rintro e w1 ⟨rfl, hb⟩; have HB := Aside0.mk hb; clear hb)
      | (go_at_call 29; refine (crc_Sum.calls (ls (t ++ a1)) HL.out _ (HT.out.below HB.out)).mono ?_; rintro e w' ⟨rfl, rfl⟩))
    have hS : IsSt w w'.heap.size (crcS (ls (t ++ a1))) 0 (w'.alloc (Obj.cells #[Value.int IntKind.u8 0, Value.int IntKind.u8 0, Value.int IntKind.u8 0, Value.int IntKind.u8 0] 64)) :=
      ⟨below_alloc HB.out _, HB.out.size, fun i hi => absurd hi (by omega), fun i _ h4 => by
        rw [World.cell?_alloc_new]
        match i, h4 with
        | 0, _ => rfl
        | 1, _ => rfl
        | 2, _ => rfl
        | 3, _ => rfl, fun i => by rw [World.frozen?_alloc_new]⟩
    have hn := crcS_lt (ls (t ++ a1))
    generalize hgn : crcS (ls (t ++ a1)) = n at hS hn ⊢
    have HG := Aside0.mk hgn
    clear hgn
    generalize w'.heap.size = b at hS ⊢
    generalize w'.alloc _ = W0 at hS ⊢
    have HS := Aside0.mk hS
    clear hS HB HT
    go_loopg [13] 4 (fun kq v13 W => ∃ j : Nat, Aside0 (j + kq = 4) ∧ v13 = .int .i64 (j : Int) ∧ Aside0 (IsSt w b n j W))
    case atStart => exact ⟨0, ⟨rfl⟩, rfl, HS⟩
    case round =>
      clear HS
      obtain ⟨j, hj, rfl, HS⟩ := hrel
      by_cases h4 : j < 4
      · have c0 : decide ((j : Int) < 4) = true := decide_eq_true (by omega)
        have hc := HS.out.rest j (Nat.le_refl _) h4
        have hf := HS.out.fz j
        have hv := fourI_at n j h4
        have HV := Aside0.mk hv
        clear hv
        have HP := Aside0.mk (HS.out.put h4)
        go_wp2
        go_roundg (3 - j)
        case measure => have := hj.out; omega
        case rel => exact ⟨j + 1, ⟨by have := hj.out; omega⟩, rfl, ⟨by rw [HV.out]; exact HP.out⟩⟩
      · have c0 : decide ((j : Int) < 4) = false := decide_eq_false (by omega)
        obtain rfl : j = 4 := by have := hj.out; omega
        have hcv := run_convert_bytes_arg wr 34 5 Tryd.underlying34 Tryd.underlying5 b 0 4 4 [fourI n 0, fourI n 1, fourI n 2, fourI n 3] rfl (fun i hi => by
          rw [Nat.zero_add, HS.out.set i hi]
          match i, hi with
          | 0, _ => rfl
          | 1, _ => rfl
          | 2, _ => rfl
          | 3, _ => rfl) 9 Tryd.underlying9
        rw [four_nums] at hcv
        have HB := Aside0.mk HS.out.bel
        clear HS
        go_wp2
        go_ret
        exact ⟨by rw [HG.out]; rfl, HB.out⟩
  · rw [if_neg hz] at h2
    cases h2
end Go.Proofs.YtbhbbnfkblibfaaDoor.XFrm
