/- The printed functions of chapter 3 come to the plain law. Conditions: those that each theorem names. -/
import Derived.Test.YthaegbiblblccaaGreatDoorLblPlain
import Derived.Test.YthaegbiblblccaaGreatDoorLblNumQ
import Derived.Test.YthaegbiblblccaaGreatDoorLblNumT
import Derived.Test.YthaegbiblblccaaGreatDoorLblNumR
import Derived.Test.YthaegbiblblccaaGreatDoorGLabelPut
import Derived.Test.YthaegbiblblccaaGreatDoorXEntP1
namespace Go.Proofs.YthaegbiblblccaaGreatDoor.Lbl
open Go Go.RowKit Go.Proofs.YthaegbiblblccaaGreatDoorW.PrintWords Go.Proofs.YthaegbiblblccaaGreatDoorW.PrintLast Go.Proofs.YthaegbiblblccaaGreatDoorW.PrintMore Go.Proofs.YthaegbiblblccaaGreatDoor.Num Go.Proofs.YthaegbiblblccaaGreatDoor.XEnt
set_option linter.unusedVariables false
set_option linter.unusedSimpArgs false
theorem y0 (i : Nat) : (0 : Int) ≤ (i : Int) := by omega
theorem w_succ {i : Nat} (h : i < 9223372036854775807) : wrap64 ((i : Int) + 1) = ((i + 1 : Nat) : Int) := by rw [w64_id (by omega) (by omega)]; omega
theorem u_succ {i : Nat} (h : i ≤ 1000000000000000000) : IntKind.u64.wrap ((i : Int) + 1) = ((i + 1 : Nat) : Int) := by rw [u64_id (by omega) (by omega)]; omega
theorem canon_f (l : List Q) {k : Nat} (hk : 10 ≤ k) : label_Canon.f k l = some (if chk l = 0 then (sortL l, 0) else ([], chk l)) := by
  unfold label_Canon.f
  rw [check_f l hk, bsome]
  split <;> rfl
theorem lput_f (l : List Q) {k : Nat} (hk : 10 ≤ k) : label_Put.f k l = some (putL l) := by
  unfold label_Put.f
  rw [check_f l hk, bsome]
theorem good_chk {l : List Q} (h : Good l) : chk l = 0 := (chk_zero l).2 h
theorem canon_good {l : List Q} (h : Good l) {k : Nat} (hk : 10 ≤ k) : label_Canon.f k l = some (sortL l, 0) := by rw [canon_f l hk, if_pos (good_chk h)]
theorem put_goodf {l : List Q} (h : Good l) {k : Nat} (hk : 10 ≤ k) : label_Put.f k l = some (bs (lbytes l), 0) := by rw [lput_f l hk]; unfold putL; rw [if_pos (good_chk h)]

/-! ### the chapter's example -/
def mk (a b : List UInt8) : Q := ⟨bs a, bs b⟩
theorem nm_mk (a b : List UInt8) : nm (mk a b) = a := by unfold nm mk; exact bs_toList a
theorem okP_mk {a b : List UInt8} (h : nameOk a = true) (hb : b.length ≤ 40) : okP (mk a b) := ⟨by rw [nm_mk]; exact h, by show (bs b).size ≤ 40; rw [bs_size]; exact hb⟩
/-! ### names -/
set_option maxRecDepth 100000 in
theorem let_n : ∀ n : Nat, n < 256 → letters.contains (UInt8.ofNat n) = ((decide (97 ≤ n) && decide (n ≤ 122)) || n == 95) := by decide
set_option maxRecDepth 100000 in
theorem lat_n : ∀ n : Nat, n < 256 → laters.contains (UInt8.ofNat n) = (((decide (97 ≤ n) && decide (n ≤ 122)) || n == 95) || (decide (48 ≤ n) && decide (n ≤ 57))) := by decide
theorem let_iff (c : UInt8) : letters.contains c = ((decide (97 ≤ c.toNat) && decide (c.toNat ≤ 122)) || c.toNat == 95) := by
  have h := let_n c.toNat c.toNat_lt
  rwa [show UInt8.ofNat c.toNat = c by simp] at h
theorem lat_iff (c : UInt8) : laters.contains c = (((decide (97 ≤ c.toNat) && decide (c.toNat ≤ 122)) || c.toNat == 95) || (decide (48 ≤ c.toNat) && decide (c.toNat ≤ 57))) := by
  have h := lat_n c.toNat c.toNat_lt
  rwa [show UInt8.ofNat c.toNat = c by simp] at h
theorem name_step (l : List UInt8) (hl : l.length ≤ 9223372036854775807) (k i : Nat) (hi : i < l.length) :
    postroomref3_Name.l0 (k + 1) (bs l) (i : Int) = if (if i = 0 then letters.contains l[i] else laters.contains l[i]) = true then postroomref3_Name.l0 k (bs l) ((i + 1 : Nat) : Int) else some false := by
  rw [postroomref3_Name.l0, bs_size, if_pos (by omega), if_pos (by omega), bt_bs l i hi, w_succ (by omega), let_iff, lat_iff]
  generalize l[i].toNat = n
  by_cases a : 97 ≤ n
  · rw [if_pos (by omega)]
    by_cases b : n ≤ 122
    · rw [if_pos (by omega), decide_eq_true a, decide_eq_true b]; simp
    · rw [if_neg (by omega), if_neg (by omega), decide_eq_false b]
      have h95 : (n == 95) = false := beq_eq_false_iff_ne.2 (by omega)
      rw [h95]
      by_cases z : i = 0
      · rw [if_pos (by omega), if_pos z]; simp
      · rw [if_neg (by omega), if_neg z, if_neg (by omega), if_pos (by omega), decide_eq_false (show ¬ n ≤ 57 by omega)]; simp
  · rw [if_neg (by omega), decide_eq_false a]
    by_cases b : n = 95
    · rw [if_pos (by omega), b]; simp
    · rw [if_neg (by omega)]
      have h95 : (n == 95) = false := beq_eq_false_iff_ne.2 b
      rw [h95]
      by_cases z : i = 0
      · rw [if_pos (by omega), if_pos z]; simp
      · rw [if_neg (by omega), if_neg z]
        by_cases c : n < 48
        · rw [if_pos (by omega), decide_eq_false (show ¬ 48 ≤ n by omega)]; simp
        · rw [if_neg (by omega), decide_eq_true (show 48 ≤ n by omega)]
          by_cases e : n > 57
          · rw [if_pos (by omega), decide_eq_false (show ¬ n ≤ 57 by omega)]; simp
          · rw [if_neg (by omega), decide_eq_true (show n ≤ 57 by omega)]; simp
theorem name_l0 (l : List UInt8) (hl : l.length ≤ 9223372036854775807) : ∀ (d k i : Nat), i + d = l.length → 1 ≤ i → d < k → postroomref3_Name.l0 k (bs l) (i : Int) = some ((l.drop i).all (laters.contains ·) && decide (l.length ≤ 20))
  | 0, k, i, hi, h1, hk => by
    obtain ⟨k, rfl⟩ : ∃ q, k = q + 1 := ⟨k - 1, by omega⟩
    rw [postroomref3_Name.l0, bs_size, if_neg (by omega), if_pos (by omega), List.drop_eq_nil_of_le (by omega)]
    simp; omega
  | d + 1, k, i, hi, h1, hk => by
    obtain ⟨k, rfl⟩ : ∃ q, k = q + 1 := ⟨k - 1, by omega⟩
    have hlt : i < l.length := by omega
    rw [name_step l hl k i hlt, if_neg (by omega : ¬ i = 0), List.drop_eq_getElem_cons hlt, List.all_cons, name_l0 l hl d k (i + 1) (by omega) (by omega) (by omega)]
    by_cases c : laters.contains l[i] = true
    · rw [if_pos c, c]; simp
    · rw [if_neg c, Bool.eq_false_iff.mpr c]; simp
theorem rname_f (l : List UInt8) (hl : l.length ≤ 9223372036854775807) {k : Nat} (hk : l.length < k) : postroomref3_Name.f k (bs l) = some (nameOk l) := by
  unfold postroomref3_Name.f
  obtain ⟨k, rfl⟩ : ∃ q, k = q + 1 := ⟨k - 1, by omega⟩
  cases l with
  | nil =>
    rw [postroomref3_Name.l0, bs_size, if_neg (by simp), if_neg (by simp)]; rfl
  | cons c r =>
    have h := name_step (c :: r) hl k 0 (by simp)
    rw [show ((0 : Nat) : Int) = 0 from rfl] at h
    rw [h, if_pos rfl]
    have h2 := name_l0 (c :: r) hl r.length k 1 (by simp; omega) (by omega) (by simp at hk; omega)
    unfold nameOk
    simp only [List.getElem_cons_zero, List.all_cons, List.drop_succ_cons, List.drop_zero] at h2 ⊢
    by_cases e : letters.contains c = true
    · rw [if_pos e]
      refine h2.trans ?_
      have e2 : laters.contains c = true := by
        rw [lat_iff]; rw [let_iff] at e; rw [e]; rfl
      rw [e, e2]
      congr 1
      simp [Bool.and_comm]
    · rw [if_neg e, Bool.eq_false_iff.mpr e]; simp
theorem rname_q (p : Q) (hl : p.f0.size ≤ 9223372036854775807) {k : Nat} (hk : p.f0.size < k) : postroomref3_Name.f k p.f0 = some (nameOk (nm p)) := by
  have h := rname_f (ls p.f0) (by rw [size_ls]; exact hl) (k := k) (by rw [size_ls]; exact hk)
  rw [bs_ls, ls_toList] at h; exact h
theorem rd_q (l : List Q) (i : Nat) (h : i < l.length) : rd_T52 l (i : Int) = l[i] := rd_nat l i h
theorem rcheck_l1 (l : List Q) (i : Nat) (hi : i < l.length) (hl : l.length ≤ 8) : ∀ (d k j : Nat), j + d = i → d < k →
    postroomref3_Check.l1 k l (i : Int) (j : Int) = if findN ((l.take i).drop j) l[i].f0 < ((l.take i).drop j).length then some 4 else postroomref3_Check.l0 (k - d - 1) l ((i + 1 : Nat) : Int)
  | 0, k, j, hj, hk => by
    obtain ⟨k, rfl⟩ : ∃ q, k = q + 1 := ⟨k - 1, by omega⟩
    have e : (l.take i).drop j = [] := List.drop_eq_nil_of_le (by rw [List.length_take]; omega)
    rw [postroomref3_Check.l1, if_neg (by omega), e, if_neg (by simp), w_succ (by omega)]
    rfl
  | d + 1, k, j, hj, hk => by
    obtain ⟨k, rfl⟩ : ∃ q, k = q + 1 := ⟨k - 1, by omega⟩
    have hji : j < (l.take i).length := by rw [List.length_take]; omega
    have hjl : j < l.length := by omega
    rw [postroomref3_Check.l1, if_pos (by omega), if_pos (by omega), if_pos (by omega), if_pos (by omega), if_pos (by omega), rd_q l j hjl, rd_q l i hi, w_succ (by omega), rcheck_l1 l i hi hl d k (j + 1) (by omega) (by omega), List.drop_eq_getElem_cons hji, List.getElem_take]
    by_cases c : l[j].f0.toList = l[i].f0.toList
    · rw [if_pos c, findN, if_pos c, if_pos (by simp)]
    · rw [if_neg c, findN, if_neg c]
      simp only [List.length_cons, Nat.add_lt_add_iff_right]
      rw [show k + 1 - (d + 1) - 1 = k - d - 1 by omega]
theorem rcheck_l0 (B : Nat) (hB : B ≤ 9223372036854775807) : ∀ (r pre : List Q) (k : Nat), B + 10 * r.length + 1 < k → pre.length + r.length ≤ 8 → (∀ p ∈ r, p.f0.size ≤ B) → postroomref3_Check.l0 k (pre ++ r) (pre.length : Int) = some (chkGo pre r)
  | [], pre, k, hk, h8, _ => by
    obtain ⟨k, rfl⟩ : ∃ q, k = q + 1 := ⟨k - 1, by omega⟩
    rw [postroomref3_Check.l0, if_neg (by simp)]; rfl
  | p :: r, pre, k, hk, h8, hs => by
    obtain ⟨k, rfl⟩ : ∃ q, k = q + 1 := ⟨k - 1, by omega⟩
    simp only [List.length_cons] at hk h8
    have hlt : pre.length < (pre ++ p :: r).length := by rw [List.length_append, List.length_cons]; omega
    have hp := hs p List.mem_cons_self
    rw [postroomref3_Check.l0, if_pos (by omega), if_pos (by omega), rd_at, rname_q p (by omega) (by omega), bsome]
    unfold chkGo
    by_cases c1 : nameOk (nm p) = true
    · rw [if_pos c1, if_pos c1]
      by_cases c2 : p.f1.size > 40
      · rw [if_pos c2, if_pos (by omega)]
      · rw [if_neg c2, if_neg (by omega)]
        have h1 := rcheck_l1 (pre ++ p :: r) pre.length hlt (by rw [List.length_append, List.length_cons]; omega) pre.length k 0 (by omega) (by omega)
        rw [show ((0 : Nat) : Int) = 0 from rfl] at h1
        have e1 : (pre ++ p :: r).take pre.length = pre := List.take_left' rfl
        have e2 : (pre ++ p :: r)[pre.length] = p := by rw [List.getElem_append_right (Nat.le_refl _)]; simp
        rw [h1, e1, List.drop_zero, e2]
        by_cases c3 : findN pre p.f0 < pre.length
        · rw [if_pos c3, if_pos c3]
        · rw [if_neg c3, if_neg c3]
          have ih := rcheck_l0 B hB r (pre ++ [p]) (k - pre.length - 1) (by omega) (by simp; omega) (fun q hq => hs q (List.mem_cons_of_mem _ hq))
          rw [List.append_assoc, List.singleton_append, List.length_append, List.length_singleton] at ih
          exact ih
    · rw [if_neg c1, if_neg c1]
theorem rcheck_f (l : List Q) (B : Nat) (hB : B ≤ 9223372036854775807) (hs : ∀ p ∈ l, p.f0.size ≤ B) {k : Nat} (hk : B + 100 ≤ k) : postroomref3_Check.f k l = some (chk l) := by
  unfold postroomref3_Check.f chk
  by_cases c : l.length > 8
  · rw [if_pos c, if_pos (by omega)]
  · rw [if_neg c, if_neg (by omega)]
    exact rcheck_l0 B hB l [] k (by omega) (by simp; omega) hs

/-! ### in order, by the least one above the last -/
def Best (l : List Q) (last : List UInt8) (j : Nat) (x : Int) : Prop :=
  (x = -1 ∧ ∀ i (h : i < l.length), i < j → ¬ last < nm l[i]) ∨
  (∃ b, ∃ hb : b < l.length, x = (b : Int) ∧ b < j ∧ last < nm l[b] ∧ ∀ i (h : i < l.length), i < j → last < nm l[i] → ¬ nm l[i] < nm l[b])
theorem canon_l1 (l acc : List Q) (last : ByteArray) (hl : l.length ≤ 8) : ∀ (d k j : Nat) (x : Int), j + d = l.length → d < k → Best l last.toList j x →
    ∃ y, Best l last.toList l.length y ∧ postroomref3_Canon.l1 k l acc last x (j : Int) = postroomref3_Canon.l1 (k - d) l acc last y (l.length : Int)
  | 0, k, j, x, hj, hk, hb => by
    have e : j = l.length := hj
    subst e
    exact ⟨x, hb, rfl⟩
  | d + 1, k, j, x, hj, hk, hb => by
    obtain ⟨k, rfl⟩ : ∃ q, k = q + 1 := ⟨k - 1, by omega⟩
    have hjl : j < l.length := by omega
    have step : ∃ y, Best l last.toList (j + 1) y ∧ postroomref3_Canon.l1 (k + 1) l acc last x (j : Int) = postroomref3_Canon.l1 k l acc last y ((j + 1 : Nat) : Int) := by
      rw [postroomref3_Canon.l1, if_pos (by omega), if_pos (by omega), rd_q l j hjl, w_succ (by omega)]
      by_cases c : Op.bytesLess last.toList l[j].f0.toList = true
      · rw [if_pos c]
        have c' : last.toList < nm l[j] := (less_iff _ _).1 c
        rcases hb with ⟨rfl, h1⟩ | ⟨b, hbl, rfl, h1, h2, h3⟩
        · rw [if_pos (by omega)]
          refine ⟨_, .inr ⟨j, hjl, rfl, by omega, c', ?_⟩, rfl⟩
          intro i h hi hlt
          rcases Nat.lt_or_ge i j with h4 | h4
          · exact absurd hlt (h1 i h h4)
          · have : i = j := by omega
            subst this
            exact List.lt_irrefl _
        · rw [if_neg (by omega), if_pos (by omega), if_pos (by omega), rd_q l b hbl]
          by_cases c2 : Op.bytesLess l[j].f0.toList l[b].f0.toList = true
          · rw [if_pos c2]
            have c2' : nm l[j] < nm l[b] := (less_iff _ _).1 c2
            refine ⟨_, .inr ⟨j, hjl, rfl, by omega, c', ?_⟩, rfl⟩
            intro i h hi hlt
            rcases Nat.lt_or_ge i j with h4 | h4
            · intro h5; exact h3 i h h4 hlt (List.lt_trans h5 c2')
            · have : i = j := by omega
              subst this
              exact List.lt_irrefl _
          · rw [if_neg c2]
            have c2' : ¬ nm l[j] < nm l[b] := (less_false _ _).1 (Bool.eq_false_iff.mpr c2)
            refine ⟨_, .inr ⟨b, hbl, rfl, by omega, h2, ?_⟩, rfl⟩
            intro i h hi hlt
            rcases Nat.lt_or_ge i j with h4 | h4
            · exact h3 i h h4 hlt
            · have : i = j := by omega
              subst this
              exact c2'
      · rw [if_neg c]
        have c' : ¬ last.toList < nm l[j] := (less_false _ _).1 (Bool.eq_false_iff.mpr c)
        refine ⟨x, ?_, rfl⟩
        rcases hb with ⟨rfl, h1⟩ | ⟨b, hbl, rfl, h1, h2, h3⟩
        · refine .inl ⟨rfl, ?_⟩
          intro i h hi
          rcases Nat.lt_or_ge i j with h4 | h4
          · exact h1 i h h4
          · have : i = j := by omega
            subst this
            exact c'
        · refine .inr ⟨b, hbl, rfl, by omega, h2, ?_⟩
          intro i h hi hlt
          rcases Nat.lt_or_ge i j with h4 | h4
          · exact h3 i h h4 hlt
          · have : i = j := by omega
            subst this
            exact absurd hlt c'
    obtain ⟨y, hy, e⟩ := step
    obtain ⟨z, hz, e2⟩ := canon_l1 l acc last hl d k (j + 1) y (by omega) (by omega) hy
    exact ⟨z, hz, by rw [e, e2, show k + 1 - (d + 1) = k - d by omega]⟩
theorem strict_at {S : List Q} (h : Strict S) {i j : Nat} (hi : i < S.length) (hj : j < S.length) : nm S[i] < nm S[j] ↔ i < j := by
  unfold Strict at h
  rw [List.pairwise_iff_getElem] at h
  constructor
  · intro h2
    rcases Nat.lt_trichotomy i j with h3 | h3 | h3
    · exact h3
    · subst h3; exact absurd h2 (List.lt_irrefl _)
    · exact absurd (List.lt_trans h2 (h j i hj hi h3)) (List.lt_irrefl _)
  · intro h2; exact h i j hi hj h2
theorem canon_l0 (l : List Q) (hg : Good l) : ∀ (d k m : Nat) (last : ByteArray), m + d = l.length → 10 * d + 1 ≤ k →
    (∀ i (h : i < (sortL l).length), last.toList < nm (sortL l)[i] ↔ m ≤ i) →
    postroomref3_Canon.l0 k l ((sortL l).take m) last = some (sortL l, 0)
  | 0, k, m, last, hm, hk, hla => by
    obtain ⟨k, rfl⟩ : ∃ q, k = q + 1 := ⟨k - 1, by omega⟩
    have hlen := sort_len l
    rw [postroomref3_Canon.l0, List.take_of_length_le (by omega), if_neg (by omega)]
  | d + 1, k, m, last, hm, hk, hla => by
    obtain ⟨k, rfl⟩ : ∃ q, k = q + 1 := ⟨k - 1, by omega⟩
    have hlen := sort_len l
    have hst := sorted_strict hg.once
    have hp := (sortL_holds l).1
    have h8 := hg.few
    have hms : m < (sortL l).length := by omega
    rw [postroomref3_Canon.l0, if_pos (by rw [List.length_take]; omega)]
    obtain ⟨y, hy, e⟩ := canon_l1 l ((sortL l).take m) last h8 l.length k 0 (-1) (by omega) (by omega) (.inl ⟨rfl, fun i h hi => by omega⟩)
    rw [show ((0 : Nat) : Int) = 0 from rfl] at e
    rw [e]
    obtain ⟨k2, hk2⟩ : ∃ q, k - l.length = q + 1 := ⟨k - l.length - 1, by omega⟩
    obtain ⟨j, hj, hje⟩ := List.getElem_of_mem (hp.mem_iff.1 (List.getElem_mem hms))
    have hlast : last.toList < nm l[j] := by rw [hje]; exact (hla m hms).2 (Nat.le_refl _)
    rcases hy with ⟨_, h1⟩ | ⟨b, hb, rfl, h1, h2, h3⟩
    · exact absurd hlast (h1 j hj hj)
    · obtain ⟨i, hi, hie⟩ := List.getElem_of_mem (hp.mem_iff.2 (List.getElem_mem hb))
      have hmi : m ≤ i := (hla i hi).1 (by rw [hie]; exact h2)
      have hmin := h3 j hj hj hlast
      rw [hje, ← hie, strict_at hst hms hi] at hmin
      have him : i = m := by omega
      subst him
      rw [hk2, postroomref3_Canon.l1, if_neg (by omega), if_pos (by omega), if_pos (by omega), if_pos (by rw [List.length_take]; omega), rd_q l b hb, ← hie]
      have e3 : (sortL l).take i ++ [⟨(sortL l)[i].f0, (sortL l)[i].f1⟩] = (sortL l).take (i + 1) := by rw [List.take_succ_eq_append_getElem hi]
      rw [e3]
      refine canon_l0 l hg d k2 (i + 1) _ (by omega) (by omega) ?_
      intro q hq
      exact strict_at hst hi hq
theorem name_pos {p : Q} (h : okP p) : ([] : List UInt8) < nm p := by
  have := h.1
  unfold nameOk at this
  cases e : nm p with
  | nil => rw [e] at this; simp at this
  | cons a b => exact List.nil_lt_cons a b
theorem empty_toList : (⟨#[]⟩ : ByteArray).toList = [] := bs_toList []
theorem rcanon_f (l : List Q) (B : Nat) (hB : B ≤ 9223372036854775807) (hs : ∀ p ∈ l, p.f0.size ≤ B) {k : Nat} (hk : B + 100 ≤ k) : postroomref3_Canon.f k l = some (if chk l = 0 then (sortL l, 0) else ([], chk l)) := by
  unfold postroomref3_Canon.f
  rw [rcheck_f l B hB hs hk, bsome]
  by_cases c : chk l = 0
  · rw [if_pos c, if_pos c]
    have hg := (chk_zero l).1 c
    have h8 := hg.few
    refine canon_l0 l hg l.length k 0 _ (by omega) (by omega) ?_
    intro i hi
    rw [empty_toList]
    exact ⟨fun _ => Nat.zero_le _, fun _ => name_pos ((good_sort hg).ok _ (List.getElem_mem _))⟩
  · rw [if_neg c, if_neg c]
end Go.Proofs.YthaegbiblblccaaGreatDoor.Lbl
