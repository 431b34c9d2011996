/- A frame of whose sum, or body, one byte is another one is none. Conditions: those that each theorem names. -/
import Derived.Test.YtbhbbnfkblibfaaDoorFrmLaw
namespace Go.Proofs.YtbhbbnfkblibfaaDoor.Frm
open Go.Proofs.YtbhbbnfkblibfaaDoor Go.Proofs.YtbhbbnfkblibfaaDoor.Num Go.Proofs.YtbhbbnfkblibfaaDoor.Crc
theorem set_split {α : Type} (l : List α) (e : Nat) (c : α) (h : e < l.length) : l.set e c = l.take e ++ c :: l.drop (e + 1) := by
  rw [List.set_eq_take_append_cons_drop, if_pos h]
theorem get_split {α : Type} (l : List α) (e : Nat) (h : e < l.length) : l = l.take e ++ l[e] :: l.drop (e + 1) := by
  rw [← List.drop_eq_getElem_cons h, List.take_append_drop]
theorem spoil_none {n : Nat} {b : List UInt8} {e : Nat} {c : UInt8} (rest : List UInt8) (hn : n < 18446744073709551616) (hb : b.length ≤ 2000) (he : e < (sumB n b ++ b).length) (hc : (sumB n b ++ b)[e] ≠ c) :
    fst (enc b.length ++ (enc n ++ ((sumB n b ++ b).set e c ++ rest))) = none := by
  have hl : ((sumB n b ++ b).set e c).length = 4 + b.length := by rw [List.length_set, List.length_append, sumB_len]
  have h4 : (((sumB n b ++ b).set e c) ++ rest).take 4 = ((sumB n b ++ b).set e c).take 4 := by
    rw [List.take_append_of_le_length (by rw [hl]; omega)]
  have h5 : ((((sumB n b ++ b).set e c) ++ rest).drop 4).take b.length = ((sumB n b ++ b).set e c).drop 4 := by
    rw [List.drop_append_of_le_length (by rw [hl]; omega)]
    exact List.take_left' (by rw [List.length_drop, hl]; omega)
  unfold fst
  rw [dec_put (by omega)]
  simp only
  rw [if_pos hb, dec_put hn]
  simp only
  rw [if_neg (by rw [List.length_append, hl]; omega), h4, h5]
  refine if_neg ?_
  by_cases h : e < 4
  · rw [List.set_append_left _ _ (by rw [sumB_len]; exact h)]
    have t1 : ((sumB n b).set e c ++ b).take 4 = (sumB n b).set e c := List.take_left' (by rw [List.length_set, sumB_len])
    have t2 : ((sumB n b).set e c ++ b).drop 4 = b := List.drop_left' (by rw [List.length_set, sumB_len])
    rw [t1, t2]
    intro hs
    have h1 : ((sumB n b).set e c)[e]? = (sumB n b)[e]? := by rw [hs]
    rw [List.getElem?_set_self (by rw [sumB_len]; exact h), List.getElem?_eq_getElem (by rw [sumB_len]; exact h)] at h1
    rw [List.getElem_append_left (by rw [sumB_len]; exact h)] at hc
    exact hc (Option.some.inj h1).symm
  · have he2 : e - 4 < b.length := by rw [List.length_append, sumB_len] at he; omega
    rw [List.set_append_right _ _ (by rw [sumB_len]; omega), sumB_len]
    have t1 : (sumB n b ++ b.set (e - 4) c).take 4 = sumB n b := List.take_left' (sumB_len n b)
    have t2 : (sumB n b ++ b.set (e - 4) c).drop 4 = b.set (e - 4) c := List.drop_left' (sumB_len n b)
    rw [t1, t2]
    intro hs
    unfold sumB at hs
    have h1 := four_inj (crcS_lt _) (crcS_lt _) hs
    have hb2 := get_split b (e - 4) he2
    rw [set_split b (e - 4) c he2] at h1
    conv at h1 => lhs; rw [hb2]
    have h2 : crcS ((enc n ++ b.take (e - 4)) ++ b[e - 4] :: b.drop (e - 4 + 1)) = crcS ((enc n ++ b.take (e - 4)) ++ c :: b.drop (e - 4 + 1)) := by
      rw [List.append_assoc, List.append_assoc]; exact h1
    have h3 := crcS_one h2
    rw [List.getElem_append_right (by rw [sumB_len]; omega)] at hc
    simp only [sumB_len] at hc
    exact hc h3

theorem spoil_set {fs : List (Nat × List UInt8)} {kk a e m : Nat} {b : List UInt8} {c : UInt8} (hg : good fs) (hk : kk < fs.length) (hx : fs[kk] = (a, b)) (hm : m = (frs (fs.take kk)).length) (he : e < b.length + 4)
    (hp : m + ((fr a b).length - (b.length + 4)) + e < (frs fs).length) (hc : (frs fs)[m + ((fr a b).length - (b.length + 4)) + e] ≠ c) :
    scanA ((frs fs).set (m + ((fr a b).length - (b.length + 4)) + e) c) = fs.take kk ∧ fst (((frs fs).set (m + ((fr a b).length - (b.length + 4)) + e) c).drop m) = none := by
  have hgi := hg (a, b) (by rw [← hx]; exact List.getElem_mem _)
  have hfs : fs = fs.take kk ++ (a, b) :: fs.drop (kk + 1) := by rw [← hx, ← List.drop_eq_getElem_cons hk, List.take_append_drop]
  have hS : frs fs = frs (fs.take kk) ++ ((enc b.length ++ enc a) ++ ((sumB a b ++ b) ++ frs (fs.drop (kk + 1)))) := by
    conv => lhs; rw [hfs]
    rw [frs_app]
    simp only [frs, fr, List.append_assoc]
  have hE : (fr a b).length - (b.length + 4) = (enc b.length ++ enc a).length := by rw [fr_len, List.length_append]; omega
  have hX : (sumB a b ++ b).length = b.length + 4 := by rw [List.length_append, sumB_len]; omega
  simp only [hE] at hp hc ⊢
  generalize frs (fs.drop (kk + 1)) = Q at hS
  have he2 : e < (sumB a b ++ b).length := by rw [hX]; exact he
  have hset : (frs fs).set (m + (enc b.length ++ enc a).length + e) c = frs (fs.take kk) ++ ((enc b.length ++ enc a) ++ ((sumB a b ++ b).set e c ++ Q)) := by
    rw [hS, hm, List.set_append_right _ _ (by omega), List.set_append_right _ _ (by omega)]
    have e1 : (frs (fs.take kk)).length + (enc b.length ++ enc a).length + e - (frs (fs.take kk)).length - (enc b.length ++ enc a).length = e := by omega
    rw [e1, List.set_append_left _ _ he2]
  have hget : (frs fs)[m + (enc b.length ++ enc a).length + e] = (sumB a b ++ b)[e] := by
    have h1 : (frs fs)[m + (enc b.length ++ enc a).length + e]? = some (sumB a b ++ b)[e] := by
      rw [hS, hm, List.getElem?_append_right (by omega), List.getElem?_append_right (by omega)]
      have e1 : (frs (fs.take kk)).length + (enc b.length ++ enc a).length + e - (frs (fs.take kk)).length - (enc b.length ++ enc a).length = e := by omega
      rw [e1, List.getElem?_append_left he2, List.getElem?_eq_getElem he2]
    rw [List.getElem?_eq_getElem hp] at h1
    exact Option.some.inj h1
  rw [hget] at hc
  have hnone : fst ((enc b.length ++ enc a) ++ ((sumB a b ++ b).set e c ++ Q)) = none := by
    rw [List.append_assoc]
    exact spoil_none Q hgi.1 hgi.2 he2 hc
  rw [hset]
  refine ⟨?_, ?_⟩
  · rw [scanA_frs _ _ (fun f hf => hg f (List.mem_of_mem_take hf)), scanA_none hnone, List.append_nil]
  · rw [hm, List.drop_left' rfl]
    exact hnone
end Go.Proofs.YtbhbbnfkblibfaaDoor.Frm
