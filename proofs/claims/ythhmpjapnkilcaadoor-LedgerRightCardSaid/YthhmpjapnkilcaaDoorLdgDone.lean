/- The plain law of chapter 10, second part: what is done, and what is evicted. Conditions: those that each theorem names. -/
import Derived.Test.YthhmpjapnkilcaaDoorLdgRef

namespace Go.Proofs.YthhmpjapnkilcaaDoor.Ldg
open Go.Proofs.YthhmpjapnkilcaaDoorW.PrintWords hiding encs
open Go.RowKit Go.Proofs.YthhmpjapnkilcaaDoorW.PrintLast Go.Proofs.YthhmpjapnkilcaaDoorW.PrintMore Go.Proofs.YthhmpjapnkilcaaDoor.Num Go.Proofs.YthhmpjapnkilcaaDoor.XLdg
set_option linter.unusedVariables false
set_option linter.unusedSimpArgs false
theorem sort_eq : ∀ (a b : List Int), a.Pairwise (· < ·) → b.Pairwise (· < ·) → (∀ y, y ∈ a ↔ y ∈ b) → a = b
 | [], [], _, _, _ => rfl
 | [], y :: b, _, _, h => absurd ((h y).2 List.mem_cons_self) (by simp)
 | x :: a, [], _, _, h => absurd ((h x).1 List.mem_cons_self) (by simp)
 | x :: a, y :: b, ha, hb, h => by
  obtain ⟨a1, a2⟩ := List.pairwise_cons.1 ha
  obtain ⟨b1, b2⟩ := List.pairwise_cons.1 hb
  have e : x = y := by
   rcases List.mem_cons.1 ((h x).1 List.mem_cons_self) with e | e
   ·exact e
   ·rcases List.mem_cons.1 ((h y).2 List.mem_cons_self) with e' | e'
    ·exact e'.symm
    ·have := b1 x e; have := a1 y e'; omega
  subst e
  rw [sort_eq a b a2 b2 (fun y => ?_)]
  constructor
  ·intro hy
   rcases List.mem_cons.1 ((h y).1 (List.mem_cons_of_mem _ hy)) with e | e
   ·have := a1 y hy; omega
   ·exact e
  ·intro hy
   rcases List.mem_cons.1 ((h y).2 (List.mem_cons_of_mem _ hy)) with e | e
   ·have := b1 y hy; omega
   ·exact e
theorem rise_char : ∀ (all : List Int) (lo hi : Int), all.Pairwise (· < ·) → (∀ y ∈ all, lo ≤ y) → lo ≤ hi → (∀ y, lo ≤ y → y < hi → y ∈ all) → hi ∉ all → riseL lo all = (hi, all.filter (hi < ·))
 | [], lo, hi, _, _, h1, h2, _ => by
  have : lo = hi := by
   rcases Int.lt_or_le lo hi with h | h
   ·exact absurd (h2 lo (Int.le_refl _) h) (by simp)
   ·omega
  subst this; rfl
 | x :: l, lo, hi, hp, hl, h1, h2, h3 => by
  obtain ⟨p1, p2⟩ := List.pairwise_cons.1 hp
  by_cases c : x = lo
  ·subst c
   have hne : x ≠ hi := fun e => h3 (e ▸ List.mem_cons_self)
   rw [riseL, if_pos rfl, rise_char l (x + 1) hi p2 (fun y hy => by have := p1 y hy; omega) (by omega) (fun y g1 g2 => ?_) (fun h => h3 (List.mem_cons_of_mem _ h)), List.filter_cons_of_neg (by simp; omega)]
   rcases List.mem_cons.1 (h2 y (by omega) g2) with e | e
   ·omega
   ·exact e
  ·have h4 := hl x List.mem_cons_self
   have hlo : lo ∉ x :: l := fun h => by
    rcases List.mem_cons.1 h with e | e
    ·exact c e.symm
    ·have := p1 lo e; omega
   have e : lo = hi := by
    rcases Int.lt_or_le lo hi with h | h
    ·exact absurd (h2 lo (Int.le_refl _) h) hlo
    ·omega
   subst e
   rw [riseL, if_neg c, List.filter_eq_self.2 (fun y hy => ?_)]
   have g1 := hl y hy
   have g2 : y ≠ lo := fun e => hlo (e ▸ hy)
   simp; omega
theorem rise_len : ∀ (all : List Int) (lo : Int), (riseL lo all).1 - lo + ((riseL lo all).2.length : Int) = all.length
 | [], lo => by simp [riseL]
 | x :: l, lo => by
  unfold riseL
  split
  ·have := rise_len l (lo + 1)
   rw [List.length_cons]; omega
  ·simp
theorem mem_insAt (l : List Int) (i : Nat) (x y : Int) : y ∈ insAt l i x ↔ y ∈ l ∨ y = x := by
 unfold insAt
 rw [List.mem_append, List.mem_cons]
 have h : y ∈ l ↔ y ∈ l.take i ∨ y ∈ l.drop i := by
  rw [← List.mem_append, List.take_append_drop]
 rw [h]
 constructor
 ·rintro (h | h | h)
  ·exact Or.inl (Or.inl h)
  ·exact Or.inr h
  ·exact Or.inl (Or.inr h)
 ·rintro ((h | h) | h)
  ·exact Or.inl h
  ·exact Or.inr (Or.inr h)
  ·exact Or.inr (Or.inl h)
theorem span_char : ∀ (m : Nat) (s : Int) (all : List Int) (c : Int), upTo all → 0 ≤ s → s + m ≤ 1000000000001 → upTo (spanL m s all c).1 ∧ (∀ y, y ∈ (spanL m s all c).1 ↔ y ∈ all ∨ (s ≤ y ∧ y < s + m)) ∧ (spanL m s all c).2 = c + (((spanL m s all c).1.length : Int) - all.length)
 | 0, s, all, c, hu, h0, hm => ⟨hu, fun y => ⟨fun h => Or.inl h, fun h => h.elim id (fun h => by omega)⟩, by simp [spanL]⟩
 | m + 1, s, all, c, hu, h0, hm => by
  unfold spanL
  by_cases hs : s ∈ all
  ·rw [if_pos hs]
   obtain ⟨g1, g2, g3⟩ := span_char m (s + 1) all c hu (by omega) (by omega)
   refine ⟨g1, fun y => (g2 y).trans ⟨?_, ?_⟩, g3⟩
   ·rintro (h | h)
    ·exact Or.inl h
    ·exact Or.inr (by omega)
   ·rintro (h | h)
    ·exact Or.inl h
    ·by_cases e : y = s
     ·subst e; exact Or.inl hs
     ·exact Or.inr (by omega)
  ·rw [if_neg hs]
   obtain ⟨g1, g2, g3⟩ := span_char m (s + 1) (insAt all (posN all s) s) (c + 1) (insAt_upTo hu (by omega) hs) (by omega) (by omega)
   refine ⟨g1, fun y => (g2 y).trans ⟨?_, ?_⟩, ?_⟩
   ·rintro (h | h)
    ·rcases (mem_insAt _ _ _ _).1 h with h | h
     ·exact Or.inl h
     ·exact Or.inr (by omega)
    ·exact Or.inr (by omega)
   ·rintro (h | h)
    ·exact Or.inl ((mem_insAt _ _ _ _).2 (Or.inl h))
    ·by_cases e : y = s
     ·exact Or.inl ((mem_insAt _ _ _ _).2 (Or.inr e))
     ·exact Or.inr (by omega)
   ·rw [g3, insAt_len (posN_le all s)]; omega
/-- How many are not pending. -/
def nonP (l : List Int) : Nat := l.countP (fun b => b != 112)
theorem nonP_p {x : Int} {l : List Int} (h : x = 112) : nonP (x :: l) = nonP l := List.countP_cons_of_neg (by simpa using h)
theorem nonP_s {x : Int} {l : List Int} (h : x ≠ 112) : nonP (x :: l) = nonP l + 1 := List.countP_cons_of_pos (by simpa using h)
theorem abv_all (lo : Int) : ∀ (l : List Int) (x : Int), lo < x → (abvL lo x l).length = nonP l
 | [], x, _ => rfl
 | b :: r, x, h => by
  have ih := abv_all lo r (x + 1) (by omega)
  unfold abvL
  by_cases c : b = 112
  ·rw [if_pos c, nonP_p c, ih]
  ·rw [if_neg c, if_pos (by omega), nonP_s c, List.length_cons, ih]
theorem abv_len : ∀ (l : List Int) (x : Int), (abvL (x + (lowN l : Int)) x l).length + lowN l = nonP l
 | [], x => rfl
 | b :: r, x => by
  by_cases c : b = 112
  ·rw [lowN_p c, nonP_p c, abvL, if_pos c, abv_all _ r _ (by omega)]; rfl
  ·have ih := abv_len r (x + 1)
   have e : x + ((lowN r + 1 : Nat) : Int) = x + 1 + (lowN r : Int) := by omega
   rw [lowN_s c, nonP_s c, abvL, if_neg c, if_neg (by omega), e]
   omega
theorem low_ge : ∀ (l : List Int) (j : Nat), j ≤ l.length → (∀ i, i < j → l[i]? ≠ some 112) → j ≤ lowN l
 | l, 0, _, _ => Nat.zero_le _
 | [], j + 1, h, _ => by simp at h
 | b :: r, j + 1, h, h2 => by
  have c : b ≠ 112 := fun e => h2 0 (by omega) (by rw [e]; rfl)
  rw [lowN_s c]
  have := low_ge r j (by simpa using h) (fun i hi => by have := h2 (i + 1) (by omega); rwa [List.getElem?_cons_succ] at this)
  omega
theorem lowN_le : ∀ (l : List Int), lowN l ≤ l.length
 | [] => Nat.le_refl _
 | b :: r => by
  have ih := lowN_le r
  by_cases c : b = 112
  ·rw [lowN_p c]; exact Nat.zero_le _
  ·rw [lowN_s c, List.length_cons]; omega
theorem low_done (l : List Int) (i : Nat) (h : i < lowN l) : ∃ b, l[i]? = some b ∧ b ≠ 112 := by
 have h1 := lowN_le l
 have hlt : i < l.length := by omega
 refine ⟨l[i], List.getElem?_eq_getElem hlt, fun e => low_before l i h ?_⟩
 rw [List.getElem?_eq_getElem hlt, e]
/-- What (Dest).done makes of the program's destination: where the document's has the entries of a span done. -/
theorem done_prog (k : Nat) (x x' : RD) (a1 a2 n : Int) (e0 : x'.f0 = x.f0) (e1 : x'.f1 = x.f1) (el : x'.f2.length = x.f2.length) (h0 : 0 ≤ x.f1) (hn : n = x.f1 + (x.f2.length : Int)) (hn2 : n ≤ 1000) (ha1 : 0 ≤ a1) (ha1' : a1 ≤ 1000000) (ha2 : 0 ≤ a2) (ha2' : a2 ≤ 1000000)
  (hp : ∀ i : Nat, i < x.f2.length → (x'.f2[i]? = some 112 ↔ x.f2[i]? = some 112 ∧ ¬ (a1 ≤ x.f1 + (i : Int) ∧ x.f1 + (i : Int) < a2))) (c4 c5 c6 : Int) :
  ledger_Dest_done.f k x.f0 x.f1 (x.f1 + (lowN x.f2 : Int)) (abvL (x.f1 + (lowN x.f2 : Int)) x.f1 x.f2) c4 c5 c6 a1 a2 n = some (x'.f0, x'.f1, x'.f1 + (lowN x'.f2 : Int), abvL (x'.f1 + (lowN x'.f2 : Int)) x'.f1 x'.f2, c4, c5, c6, (nonP x'.f2 : Int) - (nonP x.f2 : Int)) := by
 obtain ⟨nm, s, l⟩ := x
 obtain ⟨nm', s', l'⟩ := x'
 dsimp only at *
 subst e0; subst e1
 have hlo := lowN_le l
 have hhi := lowN_le l'
 have hsort := abvL_sorted (s' + (lowN l : Int)) l s'
 have hmem := mem_abvL (s' + (lowN l : Int)) l s'
 have hmem' := mem_abvL (s' + (lowN l' : Int)) l' s'
 have hin : ∀ y ∈ abvL (s' + (lowN l : Int)) s' l, s' + (lowN l : Int) < y ∧ y < n := fun y hy => by
  obtain ⟨i, b, h1, h2, h3, h4⟩ := (hmem y).1 hy
  have := (List.getElem?_eq_some_iff.1 h1).1
  omega
 have hup : upTo (abvL (s' + (lowN l : Int)) s' l) := ⟨hsort, fun y hy => by have := hin y hy; omega⟩
 have hlen := abvL_len (s' + (lowN l : Int)) l s'
 have hpre : donePre (s' + (lowN l : Int)) (abvL (s' + (lowN l : Int)) s' l) a1 a2 n := ⟨hup, by omega, by omega, by omega, by omega, by omega, by omega⟩
 obtain ⟨g1, g2, g3⟩ := span_char (min a2 n - max a1 (s' + (lowN l : Int))).toNat (max a1 (s' + (lowN l : Int))) (abvL (s' + (lowN l : Int)) s' l) 0 hup (by omega) (by omega)
 have hle : lowN l ≤ lowN l' := low_ge l' (lowN l) (by omega) (fun i hi h => low_before l i hi ((hp i (by omega)).1 h).1)
 have hall : ∀ y, y ∈ (spanL (min a2 n - max a1 (s' + (lowN l : Int))).toNat (max a1 (s' + (lowN l : Int))) (abvL (s' + (lowN l : Int)) s' l) 0).1 ↔ ∃ i : Nat, ∃ b, l'[i]? = some b ∧ b ≠ 112 ∧ y = s' + (i : Int) ∧ s' + (lowN l : Int) ≤ y := fun y => by
  rw [g2, hmem]
  constructor
  ·rintro (⟨i, b, h1, h2, h3, h4⟩ | h)
   ·have hi := (List.getElem?_eq_some_iff.1 h1).1
    have hi' : i < l'.length := by omega
    refine ⟨i, l'[i], List.getElem?_eq_getElem hi', fun e => ?_, h3, by omega⟩
    have := ((hp i hi).1 (by rw [List.getElem?_eq_getElem hi', e])).1
    rw [h1] at this
    exact h2 (Option.some.inj this)
   ·obtain ⟨i, hi⟩ : ∃ i : Nat, y = s' + (i : Int) := ⟨(y - s').toNat, by omega⟩
    have hi1 : i < l.length := by omega
    have hi' : i < l'.length := by omega
    refine ⟨i, l'[i], List.getElem?_eq_getElem hi', fun e => ?_, hi, by omega⟩
    have := ((hp i hi1).1 (by rw [List.getElem?_eq_getElem hi', e])).2
    omega
  ·rintro ⟨i, b, h1, h2, h3, h4⟩
   have hi := (List.getElem?_eq_some_iff.1 h1).1
   have hi1 : i < l.length := by omega
   by_cases c : l[i] = 112
   ·right
    have hq := (hp i hi1)
    by_cases c2 : a1 ≤ s' + (i : Int) ∧ s' + (i : Int) < a2
    ·omega
    ·have := hq.2 ⟨by rw [List.getElem?_eq_getElem hi1, c], c2⟩
     rw [h1] at this
     exact absurd (Option.some.inj this) h2
   ·left
    refine ⟨i, l[i], List.getElem?_eq_getElem hi1, c, h3, ?_⟩
    rcases Int.lt_or_le (s' + (lowN l : Int)) y with h | h
    ·exact h
    ·have e : i = lowN l := by omega
     subst e
     have := low_at l hi1
     rw [List.getElem?_eq_getElem hi1] at this
     exact absurd (Option.some.inj this) c
 have hr := rise_char (spanL (min a2 n - max a1 (s' + (lowN l : Int))).toNat (max a1 (s' + (lowN l : Int))) (abvL (s' + (lowN l : Int)) s' l) 0).1 (s' + (lowN l : Int)) (s' + (lowN l' : Int)) g1.1 (fun y hy => by
   obtain ⟨i, b, h1, h2, h3, h4⟩ := (hall y).1 hy
   exact h4) (by omega) (fun y q1 q2 => by
   obtain ⟨i, hi⟩ : ∃ i : Nat, y = s' + (i : Int) := ⟨(y - s').toNat, by omega⟩
   obtain ⟨b, b1, b2⟩ := low_done l' i (by omega)
   exact (hall y).2 ⟨i, b, b1, b2, hi, q1⟩) (fun h => by
   obtain ⟨i, b, h1, h2, h3, h4⟩ := (hall _).1 h
   have e : i = lowN l' := by omega
   subst e
   have := low_at l' (List.getElem?_eq_some_iff.1 h1).1
   rw [h1] at this
   exact h2 (Option.some.inj this))
 have hf : (spanL (min a2 n - max a1 (s' + (lowN l : Int))).toNat (max a1 (s' + (lowN l : Int))) (abvL (s' + (lowN l : Int)) s' l) 0).1.filter (s' + (lowN l' : Int) < ·) = abvL (s' + (lowN l' : Int)) s' l' := by
  refine sort_eq _ _ (g1.1.filter _) (abvL_sorted _ _ _) (fun y => ?_)
  rw [List.mem_filter, hall, hmem']
  constructor
  ·rintro ⟨⟨i, b, h1, h2, h3, h4⟩, h5⟩
   exact ⟨i, b, h1, h2, h3, by simpa using h5⟩
  ·rintro ⟨i, b, h1, h2, h3, h4⟩
   exact ⟨⟨i, b, h1, h2, h3, by omega⟩, by simpa using h4⟩
 rw [hf] at hr
 have hrl := rise_len (spanL (min a2 n - max a1 (s' + (lowN l : Int))).toNat (max a1 (s' + (lowN l : Int))) (abvL (s' + (lowN l : Int)) s' l) 0).1 (s' + (lowN l : Int))
 rw [hr] at hrl
 have q1 := abv_len l s'
 have q2 := abv_len l' s'
 unfold ledger_Dest_done.f
 rw [if_pos hpre, hr, g3]
 congr 8
 dsimp only at hrl
 omega
/-- The numbers of what became of the entries: all that may be. -/
def okS (l : List Int) : Prop := ∀ b ∈ l, b = 112 ∨ b = 97 ∨ b = 101 ∨ b = 114
theorem nonP_sum : ∀ (l : List Int), okS l → nonP l = cntN 97 l + cntN 101 l + cntN 114 l
 | [], _ => rfl
 | b :: r, h => by
  have ih := nonP_sum r (fun x hx => h x (List.mem_cons_of_mem _ hx))
  rcases h b List.mem_cons_self with rfl | rfl | rfl | rfl
  ·rw [nonP_p rfl, cntN_s (by decide), cntN_s (by decide), cntN_s (by decide), ih]
  ·rw [nonP_s (by decide), cntN_p rfl, cntN_s (by decide), cntN_s (by decide), ih]; omega
  ·rw [nonP_s (by decide), cntN_s (by decide), cntN_p rfl, cntN_s (by decide), ih]; omega
  ·rw [nonP_s (by decide), cntN_s (by decide), cntN_s (by decide), cntN_p rfl, ih]; omega
theorem cnt_len : ∀ (l : List Int) (c : Int), cntN c l ≤ l.length := fun l c => List.countP_le_length
theorem cnt_set (c : Int) (a b : Int) : ∀ (l : List Int) (i : Nat), l[i]? = some a → cntN c (l.set i b) + (if a = c then 1 else 0) = cntN c l + (if b = c then 1 else 0)
 | [], i, h => by simp at h
 | x :: r, 0, h => by
  have e : x = a := by simpa using h
  subst e
  rw [List.set_cons_zero]
  by_cases h1 : x = c
  ·by_cases h2 : b = c
   ·rw [cntN_p h1, cntN_p h2, if_pos h1, if_pos h2]
   ·rw [cntN_p h1, cntN_s h2, if_pos h1, if_neg h2]
  ·by_cases h2 : b = c
   ·rw [cntN_s h1, cntN_p h2, if_neg h1, if_pos h2]
   ·rw [cntN_s h1, cntN_s h2, if_neg h1, if_neg h2]
 | x :: r, i + 1, h => by
  have ih := cnt_set c a b r i (by rwa [List.getElem?_cons_succ] at h)
  rw [List.set_cons_succ]
  by_cases h1 : x = c
  ·rw [cntN_p h1, cntN_p h1]; omega
  ·rw [cntN_s h1, cntN_s h1]; omega
theorem okS_set {l : List Int} (h : okS l) (i : Nat) {c : Int} (hc : c = 97 ∨ c = 114) : okS (l.set i c) := fun b hb => by
 rcases List.mem_or_eq_of_mem_set hb with hb | rfl
 ·exact h b hb
 ·rcases hc with rfl | rfl <;> simp
/-- A destination's entries below a number are gone. -/
def evS (t : Int) : Int → List Int → List Int
 | _, [] => []
 | x, b :: r => (if x < t ∧ b = 112 then 101 else b) :: evS t (x + 1) r
theorem evS_len (t : Int) : ∀ (l : List Int) (x : Int), (evS t x l).length = l.length
 | [], _ => rfl
 | b :: r, x => by rw [evS, List.length_cons, List.length_cons, evS_len t r]
theorem evS_get (t : Int) : ∀ (l : List Int) (x : Int) (i : Nat), (evS t x l)[i]? = (l[i]?).map (fun b => if x + (i : Int) < t ∧ b = 112 then 101 else b)
 | [], x, i => by simp [evS]
 | b :: r, x, 0 => by simp [evS]
 | b :: r, x, i + 1 => by
  rw [evS, List.getElem?_cons_succ, List.getElem?_cons_succ, evS_get t r (x + 1) i]
  have e : x + 1 + (i : Int) = x + ((i + 1 : Nat) : Int) := by omega
  rw [e]
theorem evS_ok (t : Int) : ∀ (l : List Int) (x : Int), okS l → okS (evS t x l)
 | [], _, h => h
 | b :: r, x, h => fun y hy => by
  rw [evS, List.mem_cons] at hy
  rcases hy with rfl | hy
  ·split
   ·simp
   ·exact h b List.mem_cons_self
  ·exact evS_ok t r (x + 1) (fun z hz => h z (List.mem_cons_of_mem _ hz)) y hy
theorem evS_cnt (t c : Int) (h1 : c ≠ 112) (h2 : c ≠ 101) : ∀ (l : List Int) (x : Int), cntN c (evS t x l) = cntN c l
 | [], _ => rfl
 | b :: r, x => by
  have ih := evS_cnt t c h1 h2 r (x + 1)
  rw [evS]
  by_cases hc : x < t ∧ b = 112
  ·rw [if_pos hc, cntN_s (fun e => h2 e.symm), cntN_s (fun e => h1 (e.symm.trans hc.2)), ih]
  ·rw [if_neg hc]
   by_cases e : b = c
   ·rw [cntN_p e, cntN_p e, ih]
   ·rw [cntN_s e, cntN_s e, ih]
theorem evS_pend (t : Int) (l : List Int) (x : Int) (i : Nat) : (evS t x l)[i]? = some 112 ↔ l[i]? = some 112 ∧ ¬ x + (i : Int) < t := by
 rw [evS_get]
 cases h : l[i]? with
 | none => simp
 | some b =>
  simp only [Option.map_some, Option.some.injEq]
  constructor
  ·intro e
   split at e
   ·omega
   ·rename_i h2
    exact ⟨e, fun g => h2 ⟨g, e⟩⟩
  ·rintro ⟨e, g⟩
   rw [if_neg (fun q => g q.1)]; exact e
def evR (t : Int) (x : RD) : RD := ⟨x.f0, x.f1, evS t x.f1 x.f2⟩
structure DI (f n : Int) (x : RD) : Prop where
 since : 1 ≤ x.f1
 next : n = x.f1 + (x.f2.length : Int)
 name : x.f0 ∈ okNames
 stat : okS x.f2
 pend : ∀ i : Nat, x.f2[i]? = some 112 → f ≤ x.f1 + (i : Int)
structure Inv (f n : Int) (r : List RD) : Prop where
 f1 : 1 ≤ f
 fn : f ≤ n
 n1 : n ≤ 1000
 few : r.length ≤ 4
 all : ∀ x ∈ r, DI f n x
 apart : (r.map (fun x => x.f0.toList)).Pairwise (· ≠ ·)
theorem Inv.since {f n : Int} {r : List RD} (h : Inv f n r) : ∀ x ∈ r, 1 ≤ x.f1 := fun x hx => (h.all x hx).since
theorem Inv.next {f n : Int} {r : List RD} (h : Inv f n r) : ∀ x ∈ r, n = x.f1 + (x.f2.length : Int) := fun x hx => (h.all x hx).next
theorem Inv.stat {f n : Int} {r : List RD} (h : Inv f n r) : ∀ x ∈ r, okS x.f2 := fun x hx => (h.all x hx).stat
theorem Inv.sm {f n : Int} {r : List RD} (h : Inv f n r) : ∀ x ∈ r, SmD x := fun x hx => by
 have h1 := h.since x hx
 have h2 := h.next x hx
 have h3 := h.n1
 exact ⟨⟨by omega, by omega⟩, by omega⟩
theorem Inv.big {f n : Int} {r : List RD} (h : Inv f n r) : r.length ≤ 1000000 := by have := h.few; omega
theorem u64_small {x : Int} (h0 : 0 ≤ x) (h1 : x ≤ 1000000) : Go.IntKind.u64.wrap x = x := u64_id h0 (by omega)
theorem done_one {f n : Int} {r : List RD} (h : Inv f n r) (k : Nat) (x : RD) (hx : x ∈ r) (i : Nat) (c : Int) (hc : c = 97 ∨ c = 114) (hi : x.f2[i]? = some 112) (seq : Int) (hq : seq = x.f1 + (i : Int)) :
  ((ledger_Dest_done.f k (progD x).f0 (progD x).f1 (progD x).f2 (progD x).f3 (progD x).f4 (progD x).f5 (progD x).f6 seq (seq + 1) n).bind fun q => some (doneD q c)) = some (progD (setD x i c)) := by
 have hlt := (List.getElem?_eq_some_iff.1 hi).1
 have h1 := h.since x hx
 have h2 := h.next x hx
 have h3 := h.n1
 have hl : (x.f2.set i c).length = x.f2.length := List.length_set
 have hc112 : c ≠ 112 := by rcases hc with rfl | rfl <;> decide
 have hd := done_prog k x (setD x i c) seq (seq + 1) n rfl rfl hl (by omega) h2 h3 (by omega) (by omega) (by omega) (by omega) (fun j hj => by
  show (x.f2.set i c)[j]? = some 112 ↔ _
  rw [List.getElem?_set]
  by_cases e : i = j
  ·subst e
   rw [if_pos rfl, if_pos hlt]
   constructor
   ·intro e; exact absurd (Option.some.inj e) hc112
   ·rintro ⟨_, g⟩; omega
  ·rw [if_neg e]
   constructor
   ·intro g; exact ⟨g, by omega⟩
   ·exact fun g => g.1) ((cntN 97 x.f2 : Nat) : Int) ((cntN 101 x.f2 : Nat) : Int) ((cntN 114 x.f2 : Nat) : Int)
 have hs1 := nonP_sum x.f2 (h.stat x hx)
 have hs2 := nonP_sum (x.f2.set i c) (okS_set (h.stat x hx) i hc)
 have k1 := cnt_set 97 112 c x.f2 i hi
 have k2 := cnt_set 101 112 c x.f2 i hi
 have k3 := cnt_set 114 112 c x.f2 i hi
 have l1 := cnt_len x.f2 97
 have l3 := cnt_len x.f2 114
 refine (congrArg (fun o => Option.bind o fun q => some (doneD q c)) hd).trans ?_
 show some (doneD _ c) = _
 congr 1
 unfold doneD progD setD
 dsimp only
 rcases hc with rfl | rfl
 ·rw [if_neg (by decide), if_pos rfl] at k1
  rw [if_neg (by decide), if_neg (by decide)] at k2 k3
  rw [if_pos rfl, u64_small (by omega) (by omega)]
  congr 1 <;> omega
 ·rw [if_neg (by decide), if_pos rfl] at k3
  rw [if_neg (by decide), if_neg (by decide)] at k1 k2
  rw [if_neg (by decide), u64_small (by omega) (by omega)]
  congr 1 <;> omega
theorem evict_one {f n : Int} {r : List RD} (h : Inv f n r) (k : Nat) (x : RD) (hx : x ∈ r) (t : Int) (ht : 0 ≤ t) (ht2 : t ≤ n) : evD k t n (progD x) = some (progD (evR t x)) := by
 have h1 := h.since x hx
 have h2 := h.next x hx
 have h3 := h.n1
 have hd := done_prog k x (evR t x) 0 t n rfl rfl (evS_len t _ _) (by omega) h2 h3 (by omega) (by omega) (by omega) (by omega) (fun j hj => by
  show (evS t x.f1 x.f2)[j]? = some 112 ↔ _
  rw [evS_pend]
  constructor
  ·rintro ⟨g1, g2⟩; exact ⟨g1, by omega⟩
  ·rintro ⟨g1, g2⟩; exact ⟨g1, by omega⟩) ((cntN 97 x.f2 : Nat) : Int) ((cntN 101 x.f2 : Nat) : Int) ((cntN 114 x.f2 : Nat) : Int)
 have hs1 := nonP_sum x.f2 (h.stat x hx)
 have hs2 := nonP_sum (evS t x.f1 x.f2) (evS_ok t _ _ (h.stat x hx))
 have k1 := evS_cnt t 97 (by decide) (by decide) x.f2 x.f1
 have k3 := evS_cnt t 114 (by decide) (by decide) x.f2 x.f1
 have l2 := cnt_len (evS t x.f1 x.f2) 101
 have l3 := evS_len t x.f2 x.f1
 unfold evD
 refine (congrArg (fun o => Option.bind o _) hd).trans ?_
 show some _ = some _
 congr 1
 unfold progD evR
 dsimp only
 rw [u64_small (by omega) (by omega), k1, k3]
 congr 1
 omega
theorem evict_all {f n : Int} {r : List RD} (h : Inv f n r) (k : Nat) (t : Int) (ht : 0 ≤ t) (ht2 : t ≤ n) : ∀ l : List RD, (∀ x ∈ l, x ∈ r) → evL k t n (l.map progD) = some ((l.map (evR t)).map progD)
 | [], _ => rfl
 | x :: l, hl => by
  rw [List.map_cons, evL, evict_one h k x (hl x List.mem_cons_self) t ht ht2, evict_all h k t ht ht2 l (fun y hy => hl y (List.mem_cons_of_mem _ hy))]
  rfl
theorem evict_law {f n : Int} {r : List RD} (h : Inv f n r) (k : Nat) (t : Int) : ledger_Evict.f k f n (r.map progD) t = if f ≤ t ∧ t ≤ n then some (t, n, (r.map (evR t)).map progD, 0) else some (0, 0, [], 1) := by
 have h0 := h.f1
 unfold ledger_Evict.f
 by_cases c1 : t < f
 ·rw [if_pos c1, if_neg (by omega)]
 ·rw [if_neg c1]
  by_cases c2 : t > n
  ·rw [if_pos c2, if_neg (by omega)]
  ·rw [if_neg c2, if_pos (by rw [List.length_map]; exact h.big), if_pos (by omega), evict_all h k t (by omega) (by omega) r (fun _ hx => hx)]
   rfl
end Go.Proofs.YthhmpjapnkilcaaDoor.Ldg
