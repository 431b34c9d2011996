/- The plain law of chapter 6: frames as lists of bytes: what is told of bytes, and that it is what was put. Conditions: those that each theorem names. -/
import Derived.Test.YtbhbbnfkblibfaaDoorFrmCrc
import Derived.Test.YtbhbbnfkblibfaaDoorNumLib
namespace Go.Proofs.YtbhbbnfkblibfaaDoor.Frm
open Go.Proofs.YtbhbbnfkblibfaaDoor Go.Proofs.YtbhbbnfkblibfaaDoor.Num Go.Proofs.YtbhbbnfkblibfaaDoor.Crc

def sumB (n : Nat) (b : List UInt8) : List UInt8 := four (crcS (enc n ++ b))
def fr (n : Nat) (b : List UInt8) : List UInt8 := enc b.length ++ (enc n ++ (sumB n b ++ b))
theorem sumB_len (n : Nat) (b : List UInt8) : (sumB n b).length = 4 := rfl
theorem fr_len (n : Nat) (b : List UInt8) : (fr n b).length = (enc b.length).length + (enc n).length + 4 + b.length := by
  simp only [fr, List.length_append, sumB_len]; omega
theorem fr_ge (n : Nat) (b : List UInt8) : b.length + 6 ≤ (fr n b).length := by
  have := enc_pos n; have := enc_pos b.length; rw [fr_len]; omega
theorem fr_le {n : Nat} {b : List UInt8} (hn : n < 18446744073709551616) (hb : b.length ≤ 2000) : (fr n b).length ≤ 2024 := by
  have := enc_len10 hn; have := enc_len10 (n := b.length) (by omega); rw [fr_len]; omega

/-! ### the frame that bytes begin with -/
def fst (l : List UInt8) : Option (Nat × List UInt8 × List UInt8) := match dec 0 l with
  | none => none
  | some (m, r) => if m ≤ 2000 then (match dec 0 r with
    | none => none
    | some (n, q) => if q.length < 4 + m then none else if q.take 4 = sumB n ((q.drop 4).take m) then some (n, (q.drop 4).take m, q.drop (4 + m)) else none) else none
theorem fst_put {n : Nat} {b : List UInt8} (r : List UInt8) (hn : n < 18446744073709551616) (hb : b.length ≤ 2000) : fst (fr n b ++ r) = some (n, b, r) := by
  unfold fst fr
  rw [List.append_assoc, dec_put (by omega)]
  simp only
  rw [if_pos hb, List.append_assoc, dec_put hn]
  simp only
  have h4 : ((sumB n b ++ b) ++ r).drop 4 = b ++ r := by rw [List.append_assoc]; exact List.drop_left' (sumB_len n b)
  have h5 : ((sumB n b ++ b) ++ r).take 4 = sumB n b := by rw [List.append_assoc]; exact List.take_left' (sumB_len n b)
  have h6 : ((sumB n b ++ b) ++ r).drop (4 + b.length) = r := List.drop_left' (by rw [List.length_append, sumB_len])
  rw [if_neg (by simp only [List.length_append, sumB_len]; omega), h4, h5, h6, List.take_left' rfl, if_pos rfl]
theorem fst_some {l : List UInt8} {n : Nat} {b r : List UInt8} (h : fst l = some (n, b, r)) : l = fr n b ++ r ∧ n < 18446744073709551616 ∧ b.length ≤ 2000 := by
  unfold fst at h
  split at h
  · cases h
  · rename_i m r1 h1
    obtain ⟨e1, hm⟩ := dec_some h1
    split at h
    · rename_i hm2
      split at h
      · cases h
      · rename_i n1 q h2
        obtain ⟨e2, hn⟩ := dec_some h2
        split at h
        · cases h
        · rename_i hq
          split at h
          · rename_i hs
            simp only [Option.some.injEq, Prod.mk.injEq] at h
            obtain ⟨rfl, rfl, rfl⟩ := h
            have hl : ((q.drop 4).take m).length = m := by rw [List.length_take, List.length_drop]; omega
            refine ⟨?_, hn, by omega⟩
            rw [e1, e2]
            unfold fr
            rw [hl, ← hs, List.append_assoc, List.append_assoc, List.append_assoc]
            congr 1
            congr 1
            rw [← List.drop_drop, List.take_append_drop, List.take_append_drop]
          · cases h
    · cases h
theorem fst_lt {l : List UInt8} {n : Nat} {b r : List UInt8} (h : fst l = some (n, b, r)) : r.length < l.length := by
  obtain ⟨rfl, _, _⟩ := fst_some h
  rw [List.length_append]; have := fr_ge n b; omega
theorem fr_inj {n m : Nat} {b c r q : List UInt8} (hn : n < 18446744073709551616) (hb : b.length ≤ 2000) (hm : m < 18446744073709551616) (hc : c.length ≤ 2000) (h : fr n b ++ r = fr m c ++ q) : n = m ∧ b = c ∧ r = q := by
  have h1 := fst_put r hn hb
  rw [h, fst_put q hm hc] at h1
  simp only [Option.some.injEq, Prod.mk.injEq] at h1
  exact ⟨h1.1.symm, h1.2.1.symm, h1.2.2.symm⟩

/-! ### all frames -/
def scan : Nat → List UInt8 → List (Nat × List UInt8)
  | 0, _ => []
  | k + 1, l => match fst l with
    | none => []
    | some (n, b, r) => (n, b) :: scan k r
def frs : List (Nat × List UInt8) → List UInt8
  | [] => []
  | (n, b) :: fs => fr n b ++ frs fs
def good (fs : List (Nat × List UInt8)) : Prop := ∀ f ∈ fs, f.1 < 18446744073709551616 ∧ f.2.length ≤ 2000
theorem frs_app : ∀ (a b : List (Nat × List UInt8)), frs (a ++ b) = frs a ++ frs b
  | [], _ => rfl
  | (n, c) :: a, b => by simp only [List.cons_append, frs, frs_app a b, List.append_assoc]
/-- With rounds enough more rounds tell no more. -/
theorem scan_more : ∀ (d k : Nat) (l : List UInt8), l.length ≤ d → d < k → scan k l = scan (d + 1) l
  | d, 0, _, _, h => absurd h (by omega)
  | d, k + 1, l, hl, hk => by
    simp only [scan]
    cases h : fst l with
    | none => rfl
    | some x =>
      obtain ⟨n, b, r⟩ := x
      have := fst_lt h
      match d, hl, hk with
      | 0, hl, _ => omega
      | d + 1, hl, hk =>
        simp only
        rw [scan_more d k r (by omega) (by omega)]
def scanA (l : List UInt8) : List (Nat × List UInt8) := scan (l.length + 1) l
theorem scan_enough {k : Nat} {l : List UInt8} (h : l.length < k) : scan k l = scanA l := scan_more l.length k l (Nat.le_refl _) h
theorem scanA_none {l : List UInt8} (h : fst l = none) : scanA l = [] := by
  unfold scanA; simp only [scan, h]
theorem scanA_some {l : List UInt8} {n : Nat} {b r : List UInt8} (h : fst l = some (n, b, r)) : scanA l = (n, b) :: scanA r := by
  have := fst_lt h
  unfold scanA
  simp only [scan, h]
  rw [scan_enough (k := l.length) this]
  rfl
theorem scanA_put {n : Nat} {b : List UInt8} (r : List UInt8) (hn : n < 18446744073709551616) (hb : b.length ≤ 2000) : scanA (fr n b ++ r) = (n, b) :: scanA r := scanA_some (fst_put r hn hb)
theorem scanA_frs : ∀ (fs : List (Nat × List UInt8)) (r : List UInt8), good fs → scanA (frs fs ++ r) = fs ++ scanA r
  | [], r, _ => rfl
  | (n, b) :: fs, r, h => by
    have h1 := h (n, b) (List.mem_cons_self ..)
    simp only [frs, List.append_assoc, List.cons_append]
    rw [scanA_put _ h1.1 h1.2, scanA_frs fs r (fun f hf => h f (List.mem_cons_of_mem _ hf))]
theorem scanA_is (l : List UInt8) : good (scanA l) ∧ ∃ r, l = frs (scanA l) ++ r ∧ fst r = none := by
  generalize hd : l.length = d
  induction d using Nat.strongRecOn generalizing l with
  | _ d ih =>
    cases h : fst l with
    | none => rw [scanA_none h]; exact ⟨fun _ hf => by simp at hf, l, rfl, h⟩
    | some x =>
      obtain ⟨n, b, r⟩ := x
      rw [scanA_some h]
      obtain ⟨hl, hn, hb⟩ := fst_some h
      obtain ⟨hg, r2, hr, h2⟩ := ih r.length (by have := fst_lt h; omega) r rfl
      refine ⟨fun f hf => ?_, r2, ?_, h2⟩
      · rcases List.mem_cons.1 hf with rfl | hf
        · exact ⟨hn, hb⟩
        · exact hg f hf
      · rw [hl]; simp only [frs, List.append_assoc]; rw [← hr]
theorem frs_scan_le (l : List UInt8) : (frs (scanA l)).length ≤ l.length := by
  obtain ⟨_, r, h, _⟩ := scanA_is l
  have := congrArg List.length h
  rw [List.length_append] at this; omega

/-! ### what is told in the program's words -/
def putF (n : Nat) (b : List UInt8) : ByteArray × Int := if 2000 < b.length then (bs [], 7) else (bs (fr n b), 0)
def firstP (l : List UInt8) : Int × ByteArray × Int × Int := match fst l with
  | some (n, b, _) => ((n : Int), bs b, ((fr n b).length : Int), 0)
  | none => (0, bs [], 0, 2)
theorem firstP_put {n : Nat} {b : List UInt8} (r : List UInt8) (hn : n < 18446744073709551616) (hb : b.length ≤ 2000) : firstP (fr n b ++ r) = ((n : Int), bs b, ((fr n b).length : Int), 0) := by
  unfold firstP; rw [fst_put r hn hb]
end Go.Proofs.YtbhbbnfkblibfaaDoor.Frm
