/- The plain law of chapter 10, as Mark's laws lean on it: what the program's own ledger comes to. Conditions: those that each theorem names. -/
import Derived.Test.YtmbigoeldobaiaaDoorGMonoL
import Derived.Test.YtmbigoeldobaiaaDoorGLeave
import Derived.Test.YtmbigoeldobaiaaDoorXMrkP1
import Derived.Test.YtmbigoeldobaiaaDoorXMrkP2
import Derived.Test.YtmbigoeldobaiaaDoorXMrkP3
namespace Go.Proofs.YtmbigoeldobaiaaDoor.Ldg
open Go.Proofs.YtmbigoeldobaiaaDoorW.PrintWords hiding encs
open Go.RowKit Go.Proofs.YtmbigoeldobaiaaDoorW.PrintLast Go.Proofs.YtmbigoeldobaiaaDoorW.PrintMore Go.Proofs.YtmbigoeldobaiaaDoor.Num Go.Proofs.YtmbigoeldobaiaaDoor.XMrk
set_option linter.unusedVariables false
set_option linter.unusedSimpArgs false
/-- A destination as the document has it: its entries, each by what became of it. -/
structure RD where
 f0 : ByteArray
 f1 : Int
 f2 : List Int
def radd (l : List RD) : List RD := l.map fun x => ⟨x.f0, x.f1, x.f2 ++ [112]⟩
theorem radd_len (l : List RD) : (radd l).length = l.length := List.length_map ..
theorem Ev.stop {α : Type} {g : Nat → Option α} {r : α} (h : ∀ k, g (k + 1) = some r) : Ev g r := Ev.step (f := fun _ => some r) h (Ev.now r)
theorem rd_at (l : List Int) (i : Nat) (h : i < l.length) : rd l (i : Int) = l[i] := by
 unfold rd; rw [Int.toNat_natCast, List.getD_eq_getElem?_getD, List.getElem?_eq_getElem h]; rfl
theorem w64 {x : Int} (h0 : 0 ≤ x) (h1 : x < 9223372036854775808) : wrap64 x = x := by unfold wrap64; omega
/-- The place of the first that is pending. -/
def lowN (l : List Int) : Nat := (l.takeWhile (fun b => b != 112)).length
def cntN (c : Int) (l : List Int) : Nat := l.countP (fun b => b == c)
/-- Whose numbers stay small. -/
structure Sm (s : Int) (l : List Int) : Prop where
 s0 : 0 ≤ s
 len : s + l.length < 1000000000000000000
theorem lowN_p {x : Int} {l : List Int} (h : x = 112) : lowN (x :: l) = 0 := by subst h; rfl
theorem lowN_s {x : Int} {l : List Int} (h : x ≠ 112) : lowN (x :: l) = lowN l + 1 := by
 unfold lowN; rw [List.takeWhile_cons, if_pos (by simpa using h)]; rfl
theorem cntN_p {c x : Int} {l : List Int} (h : x = c) : cntN c (x :: l) = cntN c l + 1 := List.countP_cons_of_pos (by simpa using h)
theorem cntN_s {c x : Int} {l : List Int} (h : x ≠ c) : cntN c (x :: l) = cntN c l := List.countP_cons_of_neg (by simpa using h)
/-- The numbers that are done above the first that is pending. -/
def abvL (lo : Int) : Int → List Int → List Int
 | _, [] => []
 | x, b :: r => if b = 112 then abvL lo (x + 1) r else if x > lo then x :: abvL lo (x + 1) r else abvL lo (x + 1) r
theorem abvL_len (lo : Int) : ∀ (l : List Int) (x : Int), (abvL lo x l).length ≤ l.length
 | [], x => Nat.le_refl _
 | b :: r, x => by
  have h := abvL_len lo r (x + 1)
  unfold abvL
  split
  ·rw [List.length_cons]; omega
  ·split
   ·rw [List.length_cons, List.length_cons]; omega
   ·rw [List.length_cons]; omega
/-- The program's destination, of the document's. -/
def progD (x : RD) : D := ⟨x.f0, x.f1, x.f1 + (lowN x.f2 : Int), abvL (x.f1 + (lowN x.f2 : Int)) x.f1 x.f2, ((cntN 97 x.f2 : Nat) : Int), ((cntN 101 x.f2 : Nat) : Int), ((cntN 114 x.f2 : Nat) : Int)⟩
structure SmD (x : RD) : Prop where
 sm : Sm x.f1 x.f2
 len : x.f2.length ≤ 1000000
theorem lowN_add (l : List Int) : lowN (l ++ [112]) = lowN l := by
 induction l with
 | nil => rfl
 | cons b r ih =>
  by_cases c : b = 112
  ·rw [List.cons_append, lowN_p c, lowN_p c]
  ·rw [List.cons_append, lowN_s c, lowN_s c, ih]
theorem cntN_add {c : Int} (hc : (112 : Int) ≠ c) (l : List Int) : cntN c (l ++ [112]) = cntN c l := by
 unfold cntN
 rw [List.countP_append, List.countP_cons_of_neg (by simpa using hc), List.countP_nil, Nat.add_zero]
theorem abvL_add (lo : Int) : ∀ (l : List Int) (x : Int), abvL lo x (l ++ [112]) = abvL lo x l
 | [], x => rfl
 | b :: r, x => by rw [List.cons_append, abvL, abvL, abvL_add lo r (x + 1)]
/-- An entry more: the program's destination stays. -/
theorem progD_add (x : RD) : progD ⟨x.f0, x.f1, x.f2 ++ [112]⟩ = progD x := by
 unfold progD
 simp only [lowN_add, abvL_add, cntN_add (show (112 : Int) ≠ 97 by decide), cntN_add (show (112 : Int) ≠ 101 by decide), cntN_add (show (112 : Int) ≠ 114 by decide)]
theorem prog_radd (r : List RD) : (radd r).map progD = r.map progD := by
 unfold radd
 rw [List.map_map]
 exact List.map_congr_left fun x _ => progD_add x
theorem add_law (f n : Int) (r : List RD) (hl : r.length ≤ 1000000) : ledger_Add.f f n (r.map progD) = some (f, Go.IntKind.u64.wrap (n + 1), r.map progD) := by
 unfold ledger_Add.f ledger_Dest_39.f
 rw [if_pos (by rw [List.length_map]; exact hl)]
 rfl
/-- The place of a name. -/
def pN (nm : ByteArray) : List RD → Nat
 | [] => 0
 | x :: l => if x.f0.toList = nm.toList then 0 else pN nm l + 1
theorem plN_prog (nm : ByteArray) : ∀ r : List RD, plN (r.map progD) nm = pN nm r
 | [] => rfl
 | x :: l => by
  rw [List.map_cons, plN, pN, plN_prog nm l]
  rfl
def pI (nm : ByteArray) (r : List RD) : Int := if pN nm r < r.length then (pN nm r : Int) else -1
theorem plI_prog (nm : ByteArray) (r : List RD) : plI (r.map progD) nm = pI nm r := by
 unfold plI pI
 rw [plN_prog, List.length_map]
theorem leave_law (f n : Int) (r : List RD) (hl : r.length ≤ 1000000) (nm : ByteArray) : ledger_Leave.f f n (r.map progD) nm = if pN nm r < r.length then some (f, n, (r.eraseIdx (pN nm r)).map progD, 0) else some (0, 0, [], 5) := by
 unfold ledger_Leave.f
 rw [plN_prog, List.length_map, if_pos hl, List.eraseIdx_eq_take_drop_succ, List.eraseIdx_eq_take_drop_succ, List.map_append, List.map_take, List.map_drop]
def okNames : List ByteArray := [⟨#[97]⟩, ⟨#[98]⟩, ⟨#[99]⟩, ⟨#[100]⟩, ⟨#[101]⟩, ⟨#[122, 111, 110, 101]⟩]
set_option maxRecDepth 1000000 in
theorem name_ok (nm : ByteArray) (h : nm ∈ okNames) : label_Name.f nm = some true ∧ True := by
 refine ⟨?_, trivial⟩
 simp only [okNames, List.mem_cons, List.not_mem_nil, or_false] at h
 rcases h with rfl | rfl | rfl | rfl | rfl | rfl
 all_goals kernel_rfl
theorem progD_new (nm : ByteArray) (n : Int) : progD ⟨nm, n, []⟩ = ⟨nm, n, n, [], 0, 0, 0⟩ := by
 unfold progD lowN cntN
 simp [abvL]
theorem join_law (f n : Int) (r : List RD) (hl : r.length ≤ 1000000) (nm : ByteArray) (hn : label_Name.f nm = some true) : ledger_Join.f f n (r.map progD) nm = if pN nm r < r.length then some (0, 0, [], 4) else if 4 ≤ r.length then some (0, 0, [], 6) else some (f, n, (r ++ [(⟨nm, n, []⟩ : RD)]).map progD, 0) := by
 unfold ledger_Join.f
 rw [hn]
 have hp : ledger_place.f (r.map progD) nm = some (pI nm r) := by rw [← plI_prog]; rfl
 rw [Option.bind_some, if_pos rfl, hp, Option.bind_some]
 by_cases c : pN nm r < r.length
 ·rw [if_pos c, show pI nm r = (pN nm r : Int) from if_pos c, if_pos (by omega)]
 ·rw [if_neg c, show pI nm r = -1 from if_neg c, if_neg (by omega), List.length_map]
  by_cases c2 : 4 ≤ r.length
  ·rw [if_pos c2, if_pos (by omega)]
  ·rw [if_neg c2, if_neg (by omega)]
   unfold ledger_Dest_39.f
   rw [if_pos (by rw [List.length_map]; exact hl), Option.bind_some, Option.bind_some, if_pos (by rw [List.length_map, List.length_singleton]; omega), List.map_append, List.map_singleton, progD_new]
theorem mem_abvL (lo : Int) : ∀ (l : List Int) (x y : Int), y ∈ abvL lo x l ↔ ∃ i : Nat, ∃ b, l[i]? = some b ∧ b ≠ 112 ∧ y = x + (i : Int) ∧ y > lo
 | [], x, y => by simp [abvL]
 | c :: r, x, y => by
  have ih := mem_abvL lo r (x + 1) y
  have shift : (∃ i : Nat, ∃ b, r[i]? = some b ∧ b ≠ 112 ∧ y = x + 1 + (i : Int) ∧ y > lo) → ∃ i : Nat, ∃ b, (c :: r)[i]? = some b ∧ b ≠ 112 ∧ y = x + (i : Int) ∧ y > lo := by
   rintro ⟨i, b, h1, h2, h3, h4⟩
   exact ⟨i + 1, b, by rw [List.getElem?_cons_succ]; exact h1, h2, by omega, h4⟩
  have back : ∀ i : Nat, ∀ b, (c :: r)[i + 1]? = some b → b ≠ 112 → y = x + ((i + 1 : Nat) : Int) → y > lo → y ∈ abvL lo (x + 1) r := by
   intro i b h1 h2 h3 h4
   rw [List.getElem?_cons_succ] at h1
   exact ih.2 ⟨i, b, h1, h2, by omega, h4⟩
  unfold abvL
  by_cases hc : c = 112
  ·rw [if_pos hc]
   refine ⟨fun h => shift (ih.1 h), ?_⟩
   rintro ⟨i, b, h1, h2, h3, h4⟩
   cases i with
   | zero => simp at h1; omega
   | succ i => exact back i b h1 h2 h3 h4
  ·rw [if_neg hc]
   by_cases hx : x > lo
   ·rw [if_pos hx, List.mem_cons]
    constructor
    ·rintro (rfl | h)
     ·exact ⟨0, c, rfl, hc, by simp, hx⟩
     ·exact shift (ih.1 h)
    ·rintro ⟨i, b, h1, h2, h3, h4⟩
     cases i with
     | zero => left; simpa using h3
     | succ i => right; exact back i b h1 h2 h3 h4
   ·rw [if_neg hx]
    refine ⟨fun h => shift (ih.1 h), ?_⟩
    rintro ⟨i, b, h1, h2, h3, h4⟩
    cases i with
    | zero => simp at h3; omega
    | succ i => exact back i b h1 h2 h3 h4
theorem abvL_sorted (lo : Int) : ∀ (l : List Int) (x : Int), (abvL lo x l).Pairwise (· < ·)
 | [], x => List.Pairwise.nil
 | c :: r, x => by
  have ih := abvL_sorted lo r (x + 1)
  unfold abvL
  split
  ·exact ih
  ·split
   ·refine List.Pairwise.cons (fun y hy => ?_) ih
    obtain ⟨i, b, _, _, h, _⟩ := (mem_abvL lo r (x + 1) y).1 hy
    omega
   ·exact ih
theorem low_before : ∀ (l : List Int) (i : Nat), i < lowN l → l[i]? ≠ some 112
 | [], i, h => by simp [lowN] at h
 | c :: r, i, h => by
  by_cases hc : c = 112
  ·rw [lowN_p hc] at h; omega
  ·rw [lowN_s hc] at h
   cases i with
   | zero => simpa using hc
   | succ i => rw [List.getElem?_cons_succ]; exact low_before r i (by omega)
theorem low_at : ∀ (l : List Int), lowN l < l.length → l[lowN l]? = some 112
 | [], h => by simp at h
 | c :: r, h => by
  by_cases hc : c = 112
  ·rw [lowN_p hc, hc]; rfl
  ·rw [lowN_s hc] at h ⊢
   rw [List.getElem?_cons_succ]
   exact low_at r (by simpa using h)
/-- Whether an entry is pending. -/
def isP (x : RD) (seq : Int) : Prop := ∃ i : Nat, x.f2[i]? = some 112 ∧ seq = x.f1 + (i : Int)
open Classical in
theorem waits_ev (x : RD) (hx : SmD x) (seq n : Int) (hn : n = x.f1 + (x.f2.length : Int)) : Ev (fun k => ledger_Dest_waits.f k (progD x).f0 (progD x).f1 (progD x).f2 (progD x).f3 (progD x).f4 (progD x).f5 (progD x).f6 seq n) (decide (isP x seq)) := by
 have hbs := bs_f (progD x).f3 seq (abvL_sorted _ _ _) (by have h1 := abvL_len (x.f1 + (lowN x.f2 : Int)) x.f2 x.f1; have h2 := hx.len; show (abvL (x.f1 + (lowN x.f2 : Int)) x.f1 x.f2).length ≤ _; omega)
 obtain ⟨K, hK⟩ := hbs
 refine ⟨K, fun k hk => ?_⟩
 have hb : slices_BinarySearch_uint64_uint64.f k (progD x).f3 seq = some ((posN (progD x).f3 seq : Int), decide (seq ∈ (progD x).f3)) := hK k hk
 show ledger_Dest_waits.f k (progD x).f0 (progD x).f1 (progD x).f2 (progD x).f3 (progD x).f4 (progD x).f5 (progD x).f6 seq n = _
 unfold ledger_Dest_waits.f
 by_cases c1 : seq < (progD x).f2
 ·rw [if_pos c1]
  have : ¬ isP x seq := by
   rintro ⟨i, h1, h2⟩
   have c1' : seq < x.f1 + (lowN x.f2 : Int) := c1
   exact low_before x.f2 i (by omega) h1
  rw [decide_eq_false this]
 ·rw [if_neg c1]
  by_cases c2 : seq ≥ n
  ·rw [if_pos c2]
   have : ¬ isP x seq := by
    rintro ⟨i, h1, h2⟩
    have := (List.getElem?_eq_some_iff.1 h1).1
    omega
   rw [decide_eq_false this]
  ·rw [if_neg c2, hb]
   have c1' : ¬ seq < x.f1 + (lowN x.f2 : Int) := c1
   have hm : seq ∈ (progD x).f3 ↔ ¬ isP x seq := by
    refine (mem_abvL (x.f1 + (lowN x.f2 : Int)) x.f2 x.f1 seq).trans ⟨?_, ?_⟩
    ·rintro ⟨i, b, h1, h2, h3, h4⟩ ⟨j, g1, g2⟩
     have : i = j := by omega
     subst this
     rw [h1] at g1
     exact h2 (Option.some.inj g1)
    ·intro hp
     obtain ⟨i, hi⟩ : ∃ i : Nat, seq = x.f1 + (i : Int) := ⟨(seq - x.f1).toNat, by omega⟩
     have hlt : i < x.f2.length := by omega
     have hg := List.getElem?_eq_getElem hlt
     have hb2 : x.f2[i] ≠ 112 := fun e => hp ⟨i, by rw [hg, e], hi⟩
     refine ⟨i, x.f2[i], hg, hb2, hi, ?_⟩
     rcases Nat.lt_or_ge (lowN x.f2) i with h | h
     ·omega
     ·have e : lowN x.f2 = i := by omega
      have := low_at x.f2 (by omega)
      rw [e, hg] at this
      exact absurd (Option.some.inj this) hb2
   show some (!decide (seq ∈ (progD x).f3)) = some (decide (isP x seq))
   by_cases c3 : isP x seq
   ·rw [decide_eq_true c3, decide_eq_false (fun h => hm.1 h c3)]; rfl
   ·rw [decide_eq_false c3, decide_eq_true (hm.2 c3)]; rfl
/-- A destination, one of whose entries is done. -/
def setD (x : RD) (i : Nat) (c : Int) : RD := ⟨x.f0, x.f1, x.f2.set i c⟩
theorem sort_eq : ∀ (a b : List Int), a.Pairwise (· < ·) → b.Pairwise (· < ·) → (∀ y, y ∈ a ↔ y ∈ b) → a = b
 | [], [], _, _, _ => rfl
 | [], y :: b, _, _, h => absurd ((h y).2 List.mem_cons_self) (by simp)
 | x :: a, [], _, _, h => absurd ((h x).1 List.mem_cons_self) (by simp)
 | x :: a, y :: b, ha, hb, h => by
  obtain ⟨a1, a2⟩ := List.pairwise_cons.1 ha
  obtain ⟨b1, b2⟩ := List.pairwise_cons.1 hb
  have e : x = y := by
   rcases List.mem_cons.1 ((h x).1 List.mem_cons_self) with e | e
   ·exact e
   ·rcases List.mem_cons.1 ((h y).2 List.mem_cons_self) with e' | e'
    ·exact e'.symm
    ·have := b1 x e; have := a1 y e'; omega
  subst e
  rw [sort_eq a b a2 b2 (fun y => ?_)]
  constructor
  ·intro hy
   rcases List.mem_cons.1 ((h y).1 (List.mem_cons_of_mem _ hy)) with e | e
   ·have := a1 y hy; omega
   ·exact e
  ·intro hy
   rcases List.mem_cons.1 ((h y).2 (List.mem_cons_of_mem _ hy)) with e | e
   ·have := b1 y hy; omega
   ·exact e
theorem rise_char : ∀ (all : List Int) (lo hi : Int), all.Pairwise (· < ·) → (∀ y ∈ all, lo ≤ y) → lo ≤ hi → (∀ y, lo ≤ y → y < hi → y ∈ all) → hi ∉ all → riseL lo all = (hi, all.filter (hi < ·))
 | [], lo, hi, _, _, h1, h2, _ => by
  have : lo = hi := by
   rcases Int.lt_or_le lo hi with h | h
   ·exact absurd (h2 lo (Int.le_refl _) h) (by simp)
   ·omega
  subst this; rfl
 | x :: l, lo, hi, hp, hl, h1, h2, h3 => by
  obtain ⟨p1, p2⟩ := List.pairwise_cons.1 hp
  by_cases c : x = lo
  ·subst c
   have hne : x ≠ hi := fun e => h3 (e ▸ List.mem_cons_self)
   rw [riseL, if_pos rfl, rise_char l (x + 1) hi p2 (fun y hy => by have := p1 y hy; omega) (by omega) (fun y g1 g2 => ?_) (fun h => h3 (List.mem_cons_of_mem _ h)), List.filter_cons_of_neg (by simp; omega)]
   rcases List.mem_cons.1 (h2 y (by omega) g2) with e | e
   ·omega
   ·exact e
  ·have h4 := hl x List.mem_cons_self
   have hlo : lo ∉ x :: l := fun h => by
    rcases List.mem_cons.1 h with e | e
    ·exact c e.symm
    ·have := p1 lo e; omega
   have e : lo = hi := by
    rcases Int.lt_or_le lo hi with h | h
    ·exact absurd (h2 lo (Int.le_refl _) h) hlo
    ·omega
   subst e
   rw [riseL, if_neg c, List.filter_eq_self.2 (fun y hy => ?_)]
   have g1 := hl y hy
   have g2 : y ≠ lo := fun e => hlo (e ▸ hy)
   simp; omega
theorem rise_len : ∀ (all : List Int) (lo : Int), (riseL lo all).1 - lo + ((riseL lo all).2.length : Int) = all.length
 | [], lo => by simp [riseL]
 | x :: l, lo => by
  unfold riseL
  split
  ·have := rise_len l (lo + 1)
   rw [List.length_cons]; omega
  ·simp
theorem mem_insAt (l : List Int) (i : Nat) (x y : Int) : y ∈ insAt l i x ↔ y ∈ l ∨ y = x := by
 unfold insAt
 rw [List.mem_append, List.mem_cons]
 have h : y ∈ l ↔ y ∈ l.take i ∨ y ∈ l.drop i := by
  rw [← List.mem_append, List.take_append_drop]
 rw [h]
 constructor
 ·rintro (h | h | h)
  ·exact Or.inl (Or.inl h)
  ·exact Or.inr h
  ·exact Or.inl (Or.inr h)
 ·rintro ((h | h) | h)
  ·exact Or.inl h
  ·exact Or.inr (Or.inr h)
  ·exact Or.inr (Or.inl h)
theorem span_char : ∀ (m : Nat) (s : Int) (all : List Int) (c : Int), upTo all → 0 ≤ s → s + m ≤ 1000000000001 → upTo (spanL m s all c).1 ∧ (∀ y, y ∈ (spanL m s all c).1 ↔ y ∈ all ∨ (s ≤ y ∧ y < s + m)) ∧ (spanL m s all c).2 = c + (((spanL m s all c).1.length : Int) - all.length)
 | 0, s, all, c, hu, h0, hm => ⟨hu, fun y => ⟨fun h => Or.inl h, fun h => h.elim id (fun h => by omega)⟩, by simp [spanL]⟩
 | m + 1, s, all, c, hu, h0, hm => by
  unfold spanL
  by_cases hs : s ∈ all
  ·rw [if_pos hs]
   obtain ⟨g1, g2, g3⟩ := span_char m (s + 1) all c hu (by omega) (by omega)
   refine ⟨g1, fun y => (g2 y).trans ⟨?_, ?_⟩, g3⟩
   ·rintro (h | h)
    ·exact Or.inl h
    ·exact Or.inr (by omega)
   ·rintro (h | h)
    ·exact Or.inl h
    ·by_cases e : y = s
     ·subst e; exact Or.inl hs
     ·exact Or.inr (by omega)
  ·rw [if_neg hs]
   obtain ⟨g1, g2, g3⟩ := span_char m (s + 1) (insAt all (posN all s) s) (c + 1) (insAt_upTo hu (by omega) hs) (by omega) (by omega)
   refine ⟨g1, fun y => (g2 y).trans ⟨?_, ?_⟩, ?_⟩
   ·rintro (h | h)
    ·rcases (mem_insAt _ _ _ _).1 h with h | h
     ·exact Or.inl h
     ·exact Or.inr (by omega)
    ·exact Or.inr (by omega)
   ·rintro (h | h)
    ·exact Or.inl ((mem_insAt _ _ _ _).2 (Or.inl h))
    ·by_cases e : y = s
     ·exact Or.inl ((mem_insAt _ _ _ _).2 (Or.inr e))
     ·exact Or.inr (by omega)
   ·rw [g3, insAt_len (posN_le all s)]; omega
/-- How many are not pending. -/
def nonP (l : List Int) : Nat := l.countP (fun b => b != 112)
theorem nonP_p {x : Int} {l : List Int} (h : x = 112) : nonP (x :: l) = nonP l := List.countP_cons_of_neg (by simpa using h)
theorem nonP_s {x : Int} {l : List Int} (h : x ≠ 112) : nonP (x :: l) = nonP l + 1 := List.countP_cons_of_pos (by simpa using h)
theorem abv_all (lo : Int) : ∀ (l : List Int) (x : Int), lo < x → (abvL lo x l).length = nonP l
 | [], x, _ => rfl
 | b :: r, x, h => by
  have ih := abv_all lo r (x + 1) (by omega)
  unfold abvL
  by_cases c : b = 112
  ·rw [if_pos c, nonP_p c, ih]
  ·rw [if_neg c, if_pos (by omega), nonP_s c, List.length_cons, ih]
theorem abv_len : ∀ (l : List Int) (x : Int), (abvL (x + (lowN l : Int)) x l).length + lowN l = nonP l
 | [], x => rfl
 | b :: r, x => by
  by_cases c : b = 112
  ·rw [lowN_p c, nonP_p c, abvL, if_pos c, abv_all _ r _ (by omega)]; rfl
  ·have ih := abv_len r (x + 1)
   have e : x + ((lowN r + 1 : Nat) : Int) = x + 1 + (lowN r : Int) := by omega
   rw [lowN_s c, nonP_s c, abvL, if_neg c, if_neg (by omega), e]
   omega
theorem low_ge : ∀ (l : List Int) (j : Nat), j ≤ l.length → (∀ i, i < j → l[i]? ≠ some 112) → j ≤ lowN l
 | l, 0, _, _ => Nat.zero_le _
 | [], j + 1, h, _ => by simp at h
 | b :: r, j + 1, h, h2 => by
  have c : b ≠ 112 := fun e => h2 0 (by omega) (by rw [e]; rfl)
  rw [lowN_s c]
  have := low_ge r j (by simpa using h) (fun i hi => by have := h2 (i + 1) (by omega); rwa [List.getElem?_cons_succ] at this)
  omega
theorem lowN_le : ∀ (l : List Int), lowN l ≤ l.length
 | [] => Nat.le_refl _
 | b :: r => by
  have ih := lowN_le r
  by_cases c : b = 112
  ·rw [lowN_p c]; exact Nat.zero_le _
  ·rw [lowN_s c, List.length_cons]; omega
theorem low_done (l : List Int) (i : Nat) (h : i < lowN l) : ∃ b, l[i]? = some b ∧ b ≠ 112 := by
 have h1 := lowN_le l
 have hlt : i < l.length := by omega
 refine ⟨l[i], List.getElem?_eq_getElem hlt, fun e => low_before l i h ?_⟩
 rw [List.getElem?_eq_getElem hlt, e]
/-- What (Dest).done makes of the program's destination: where the document's has the entries of a span done. -/
theorem done_prog (k : Nat) (x x' : RD) (a1 a2 n : Int) (e0 : x'.f0 = x.f0) (e1 : x'.f1 = x.f1) (el : x'.f2.length = x.f2.length) (h0 : 0 ≤ x.f1) (hn : n = x.f1 + (x.f2.length : Int)) (hn2 : n ≤ 1000) (ha1 : 0 ≤ a1) (ha1' : a1 ≤ 1000000) (ha2 : 0 ≤ a2) (ha2' : a2 ≤ 1000000)
  (hp : ∀ i : Nat, i < x.f2.length → (x'.f2[i]? = some 112 ↔ x.f2[i]? = some 112 ∧ ¬ (a1 ≤ x.f1 + (i : Int) ∧ x.f1 + (i : Int) < a2))) (c4 c5 c6 : Int) :
  ledger_Dest_done.f k x.f0 x.f1 (x.f1 + (lowN x.f2 : Int)) (abvL (x.f1 + (lowN x.f2 : Int)) x.f1 x.f2) c4 c5 c6 a1 a2 n = some (x'.f0, x'.f1, x'.f1 + (lowN x'.f2 : Int), abvL (x'.f1 + (lowN x'.f2 : Int)) x'.f1 x'.f2, c4, c5, c6, (nonP x'.f2 : Int) - (nonP x.f2 : Int)) := by
 obtain ⟨nm, s, l⟩ := x
 obtain ⟨nm', s', l'⟩ := x'
 dsimp only at *
 subst e0; subst e1
 have hlo := lowN_le l
 have hhi := lowN_le l'
 have hsort := abvL_sorted (s' + (lowN l : Int)) l s'
 have hmem := mem_abvL (s' + (lowN l : Int)) l s'
 have hmem' := mem_abvL (s' + (lowN l' : Int)) l' s'
 have hin : ∀ y ∈ abvL (s' + (lowN l : Int)) s' l, s' + (lowN l : Int) < y ∧ y < n := fun y hy => by
  obtain ⟨i, b, h1, h2, h3, h4⟩ := (hmem y).1 hy
  have := (List.getElem?_eq_some_iff.1 h1).1
  omega
 have hup : upTo (abvL (s' + (lowN l : Int)) s' l) := ⟨hsort, fun y hy => by have := hin y hy; omega⟩
 have hlen := abvL_len (s' + (lowN l : Int)) l s'
 have hpre : donePre (s' + (lowN l : Int)) (abvL (s' + (lowN l : Int)) s' l) a1 a2 n := ⟨hup, by omega, by omega, by omega, by omega, by omega, by omega⟩
 obtain ⟨g1, g2, g3⟩ := span_char (min a2 n - max a1 (s' + (lowN l : Int))).toNat (max a1 (s' + (lowN l : Int))) (abvL (s' + (lowN l : Int)) s' l) 0 hup (by omega) (by omega)
 have hle : lowN l ≤ lowN l' := low_ge l' (lowN l) (by omega) (fun i hi h => low_before l i hi ((hp i (by omega)).1 h).1)
 have hall : ∀ y, y ∈ (spanL (min a2 n - max a1 (s' + (lowN l : Int))).toNat (max a1 (s' + (lowN l : Int))) (abvL (s' + (lowN l : Int)) s' l) 0).1 ↔ ∃ i : Nat, ∃ b, l'[i]? = some b ∧ b ≠ 112 ∧ y = s' + (i : Int) ∧ s' + (lowN l : Int) ≤ y := fun y => by
  rw [g2, hmem]
  constructor
  ·rintro (⟨i, b, h1, h2, h3, h4⟩ | h)
   ·have hi := (List.getElem?_eq_some_iff.1 h1).1
    have hi' : i < l'.length := by omega
    refine ⟨i, l'[i], List.getElem?_eq_getElem hi', fun e => ?_, h3, by omega⟩
    have := ((hp i hi).1 (by rw [List.getElem?_eq_getElem hi', e])).1
    rw [h1] at this
    exact h2 (Option.some.inj this)
   ·obtain ⟨i, hi⟩ : ∃ i : Nat, y = s' + (i : Int) := ⟨(y - s').toNat, by omega⟩
    have hi1 : i < l.length := by omega
    have hi' : i < l'.length := by omega
    refine ⟨i, l'[i], List.getElem?_eq_getElem hi', fun e => ?_, hi, by omega⟩
    have := ((hp i hi1).1 (by rw [List.getElem?_eq_getElem hi', e])).2
    omega
  ·rintro ⟨i, b, h1, h2, h3, h4⟩
   have hi := (List.getElem?_eq_some_iff.1 h1).1
   have hi1 : i < l.length := by omega
   by_cases c : l[i] = 112
   ·right
    have hq := (hp i hi1)
    by_cases c2 : a1 ≤ s' + (i : Int) ∧ s' + (i : Int) < a2
    ·omega
    ·have := hq.2 ⟨by rw [List.getElem?_eq_getElem hi1, c], c2⟩
     rw [h1] at this
     exact absurd (Option.some.inj this) h2
   ·left
    refine ⟨i, l[i], List.getElem?_eq_getElem hi1, c, h3, ?_⟩
    rcases Int.lt_or_le (s' + (lowN l : Int)) y with h | h
    ·exact h
    ·have e : i = lowN l := by omega
     subst e
     have := low_at l hi1
     rw [List.getElem?_eq_getElem hi1] at this
     exact absurd (Option.some.inj this) c
 have hr := rise_char (spanL (min a2 n - max a1 (s' + (lowN l : Int))).toNat (max a1 (s' + (lowN l : Int))) (abvL (s' + (lowN l : Int)) s' l) 0).1 (s' + (lowN l : Int)) (s' + (lowN l' : Int)) g1.1 (fun y hy => by
   obtain ⟨i, b, h1, h2, h3, h4⟩ := (hall y).1 hy
   exact h4) (by omega) (fun y q1 q2 => by
   obtain ⟨i, hi⟩ : ∃ i : Nat, y = s' + (i : Int) := ⟨(y - s').toNat, by omega⟩
   obtain ⟨b, b1, b2⟩ := low_done l' i (by omega)
   exact (hall y).2 ⟨i, b, b1, b2, hi, q1⟩) (fun h => by
   obtain ⟨i, b, h1, h2, h3, h4⟩ := (hall _).1 h
   have e : i = lowN l' := by omega
   subst e
   have := low_at l' (List.getElem?_eq_some_iff.1 h1).1
   rw [h1] at this
   exact h2 (Option.some.inj this))
 have hf : (spanL (min a2 n - max a1 (s' + (lowN l : Int))).toNat (max a1 (s' + (lowN l : Int))) (abvL (s' + (lowN l : Int)) s' l) 0).1.filter (s' + (lowN l' : Int) < ·) = abvL (s' + (lowN l' : Int)) s' l' := by
  refine sort_eq _ _ (g1.1.filter _) (abvL_sorted _ _ _) (fun y => ?_)
  rw [List.mem_filter, hall, hmem']
  constructor
  ·rintro ⟨⟨i, b, h1, h2, h3, h4⟩, h5⟩
   exact ⟨i, b, h1, h2, h3, by simpa using h5⟩
  ·rintro ⟨i, b, h1, h2, h3, h4⟩
   exact ⟨⟨i, b, h1, h2, h3, by omega⟩, by simpa using h4⟩
 rw [hf] at hr
 have hrl := rise_len (spanL (min a2 n - max a1 (s' + (lowN l : Int))).toNat (max a1 (s' + (lowN l : Int))) (abvL (s' + (lowN l : Int)) s' l) 0).1 (s' + (lowN l : Int))
 rw [hr] at hrl
 have q1 := abv_len l s'
 have q2 := abv_len l' s'
 unfold ledger_Dest_done.f
 rw [if_pos hpre, hr, g3]
 congr 8
 dsimp only at hrl
 omega
/-- The numbers of what became of the entries: all that may be. -/
def okS (l : List Int) : Prop := ∀ b ∈ l, b = 112 ∨ b = 97 ∨ b = 101 ∨ b = 114
theorem nonP_sum : ∀ (l : List Int), okS l → nonP l = cntN 97 l + cntN 101 l + cntN 114 l
 | [], _ => rfl
 | b :: r, h => by
  have ih := nonP_sum r (fun x hx => h x (List.mem_cons_of_mem _ hx))
  rcases h b List.mem_cons_self with rfl | rfl | rfl | rfl
  ·rw [nonP_p rfl, cntN_s (by decide), cntN_s (by decide), cntN_s (by decide), ih]
  ·rw [nonP_s (by decide), cntN_p rfl, cntN_s (by decide), cntN_s (by decide), ih]; omega
  ·rw [nonP_s (by decide), cntN_s (by decide), cntN_p rfl, cntN_s (by decide), ih]; omega
  ·rw [nonP_s (by decide), cntN_s (by decide), cntN_s (by decide), cntN_p rfl, ih]; omega
theorem cnt_len : ∀ (l : List Int) (c : Int), cntN c l ≤ l.length := fun l c => List.countP_le_length
theorem cnt_set (c : Int) (a b : Int) : ∀ (l : List Int) (i : Nat), l[i]? = some a → cntN c (l.set i b) + (if a = c then 1 else 0) = cntN c l + (if b = c then 1 else 0)
 | [], i, h => by simp at h
 | x :: r, 0, h => by
  have e : x = a := by simpa using h
  subst e
  rw [List.set_cons_zero]
  by_cases h1 : x = c
  ·by_cases h2 : b = c
   ·rw [cntN_p h1, cntN_p h2, if_pos h1, if_pos h2]
   ·rw [cntN_p h1, cntN_s h2, if_pos h1, if_neg h2]
  ·by_cases h2 : b = c
   ·rw [cntN_s h1, cntN_p h2, if_neg h1, if_pos h2]
   ·rw [cntN_s h1, cntN_s h2, if_neg h1, if_neg h2]
 | x :: r, i + 1, h => by
  have ih := cnt_set c a b r i (by rwa [List.getElem?_cons_succ] at h)
  rw [List.set_cons_succ]
  by_cases h1 : x = c
  ·rw [cntN_p h1, cntN_p h1]; omega
  ·rw [cntN_s h1, cntN_s h1]; omega
theorem okS_set {l : List Int} (h : okS l) (i : Nat) {c : Int} (hc : c = 97 ∨ c = 114) : okS (l.set i c) := fun b hb => by
 rcases List.mem_or_eq_of_mem_set hb with hb | rfl
 ·exact h b hb
 ·rcases hc with rfl | rfl <;> simp
/-- A destination's entries below a number are gone. -/
def evS (t : Int) : Int → List Int → List Int
 | _, [] => []
 | x, b :: r => (if x < t ∧ b = 112 then 101 else b) :: evS t (x + 1) r
theorem evS_len (t : Int) : ∀ (l : List Int) (x : Int), (evS t x l).length = l.length
 | [], _ => rfl
 | b :: r, x => by rw [evS, List.length_cons, List.length_cons, evS_len t r]
theorem evS_get (t : Int) : ∀ (l : List Int) (x : Int) (i : Nat), (evS t x l)[i]? = (l[i]?).map (fun b => if x + (i : Int) < t ∧ b = 112 then 101 else b)
 | [], x, i => by simp [evS]
 | b :: r, x, 0 => by simp [evS]
 | b :: r, x, i + 1 => by
  rw [evS, List.getElem?_cons_succ, List.getElem?_cons_succ, evS_get t r (x + 1) i]
  have e : x + 1 + (i : Int) = x + ((i + 1 : Nat) : Int) := by omega
  rw [e]
theorem evS_ok (t : Int) : ∀ (l : List Int) (x : Int), okS l → okS (evS t x l)
 | [], _, h => h
 | b :: r, x, h => fun y hy => by
  rw [evS, List.mem_cons] at hy
  rcases hy with rfl | hy
  ·split
   ·simp
   ·exact h b List.mem_cons_self
  ·exact evS_ok t r (x + 1) (fun z hz => h z (List.mem_cons_of_mem _ hz)) y hy
theorem evS_cnt (t c : Int) (h1 : c ≠ 112) (h2 : c ≠ 101) : ∀ (l : List Int) (x : Int), cntN c (evS t x l) = cntN c l
 | [], _ => rfl
 | b :: r, x => by
  have ih := evS_cnt t c h1 h2 r (x + 1)
  rw [evS]
  by_cases hc : x < t ∧ b = 112
  ·rw [if_pos hc, cntN_s (fun e => h2 e.symm), cntN_s (fun e => h1 (e.symm.trans hc.2)), ih]
  ·rw [if_neg hc]
   by_cases e : b = c
   ·rw [cntN_p e, cntN_p e, ih]
   ·rw [cntN_s e, cntN_s e, ih]
theorem evS_pend (t : Int) (l : List Int) (x : Int) (i : Nat) : (evS t x l)[i]? = some 112 ↔ l[i]? = some 112 ∧ ¬ x + (i : Int) < t := by
 rw [evS_get]
 cases h : l[i]? with
 | none => simp
 | some b =>
  simp only [Option.map_some, Option.some.injEq]
  constructor
  ·intro e
   split at e
   ·omega
   ·rename_i h2
    exact ⟨e, fun g => h2 ⟨g, e⟩⟩
  ·rintro ⟨e, g⟩
   rw [if_neg (fun q => g q.1)]; exact e
def evR (t : Int) (x : RD) : RD := ⟨x.f0, x.f1, evS t x.f1 x.f2⟩
structure DI (f n : Int) (x : RD) : Prop where
 since : 1 ≤ x.f1
 next : n = x.f1 + (x.f2.length : Int)
 name : x.f0 ∈ okNames
 stat : okS x.f2
 pend : ∀ i : Nat, x.f2[i]? = some 112 → f ≤ x.f1 + (i : Int)
structure Inv (f n : Int) (r : List RD) : Prop where
 f1 : 1 ≤ f
 fn : f ≤ n
 n1 : n ≤ 1000
 few : r.length ≤ 4
 all : ∀ x ∈ r, DI f n x
 apart : (r.map (fun x => x.f0.toList)).Pairwise (· ≠ ·)
theorem Inv.since {f n : Int} {r : List RD} (h : Inv f n r) : ∀ x ∈ r, 1 ≤ x.f1 := fun x hx => (h.all x hx).since
theorem Inv.next {f n : Int} {r : List RD} (h : Inv f n r) : ∀ x ∈ r, n = x.f1 + (x.f2.length : Int) := fun x hx => (h.all x hx).next
theorem Inv.stat {f n : Int} {r : List RD} (h : Inv f n r) : ∀ x ∈ r, okS x.f2 := fun x hx => (h.all x hx).stat
theorem Inv.sm {f n : Int} {r : List RD} (h : Inv f n r) : ∀ x ∈ r, SmD x := fun x hx => by
 have h1 := h.since x hx
 have h2 := h.next x hx
 have h3 := h.n1
 exact ⟨⟨by omega, by omega⟩, by omega⟩
theorem Inv.big {f n : Int} {r : List RD} (h : Inv f n r) : r.length ≤ 1000000 := by have := h.few; omega
theorem u64_small {x : Int} (h0 : 0 ≤ x) (h1 : x ≤ 1000000) : Go.IntKind.u64.wrap x = x := u64_id h0 (by omega)
theorem done_one {f n : Int} {r : List RD} (h : Inv f n r) (k : Nat) (x : RD) (hx : x ∈ r) (i : Nat) (c : Int) (hc : c = 97 ∨ c = 114) (hi : x.f2[i]? = some 112) (seq : Int) (hq : seq = x.f1 + (i : Int)) :
  ((ledger_Dest_done.f k (progD x).f0 (progD x).f1 (progD x).f2 (progD x).f3 (progD x).f4 (progD x).f5 (progD x).f6 seq (seq + 1) n).bind fun q => some (doneD q c)) = some (progD (setD x i c)) := by
 have hlt := (List.getElem?_eq_some_iff.1 hi).1
 have h1 := h.since x hx
 have h2 := h.next x hx
 have h3 := h.n1
 have hl : (x.f2.set i c).length = x.f2.length := List.length_set
 have hc112 : c ≠ 112 := by rcases hc with rfl | rfl <;> decide
 have hd := done_prog k x (setD x i c) seq (seq + 1) n rfl rfl hl (by omega) h2 h3 (by omega) (by omega) (by omega) (by omega) (fun j hj => by
  show (x.f2.set i c)[j]? = some 112 ↔ _
  rw [List.getElem?_set]
  by_cases e : i = j
  ·subst e
   rw [if_pos rfl, if_pos hlt]
   constructor
   ·intro e; exact absurd (Option.some.inj e) hc112
   ·rintro ⟨_, g⟩; omega
  ·rw [if_neg e]
   constructor
   ·intro g; exact ⟨g, by omega⟩
   ·exact fun g => g.1) ((cntN 97 x.f2 : Nat) : Int) ((cntN 101 x.f2 : Nat) : Int) ((cntN 114 x.f2 : Nat) : Int)
 have hs1 := nonP_sum x.f2 (h.stat x hx)
 have hs2 := nonP_sum (x.f2.set i c) (okS_set (h.stat x hx) i hc)
 have k1 := cnt_set 97 112 c x.f2 i hi
 have k2 := cnt_set 101 112 c x.f2 i hi
 have k3 := cnt_set 114 112 c x.f2 i hi
 have l1 := cnt_len x.f2 97
 have l3 := cnt_len x.f2 114
 refine (congrArg (fun o => Option.bind o fun q => some (doneD q c)) hd).trans ?_
 show some (doneD _ c) = _
 congr 1
 unfold doneD progD setD
 dsimp only
 rcases hc with rfl | rfl
 ·rw [if_neg (by decide), if_pos rfl] at k1
  rw [if_neg (by decide), if_neg (by decide)] at k2 k3
  rw [if_pos rfl, u64_small (by omega) (by omega)]
  congr 1 <;> omega
 ·rw [if_neg (by decide), if_pos rfl] at k3
  rw [if_neg (by decide), if_neg (by decide)] at k1 k2
  rw [if_neg (by decide), u64_small (by omega) (by omega)]
  congr 1 <;> omega
theorem evict_one {f n : Int} {r : List RD} (h : Inv f n r) (k : Nat) (x : RD) (hx : x ∈ r) (t : Int) (ht : 0 ≤ t) (ht2 : t ≤ n) : evD k t n (progD x) = some (progD (evR t x)) := by
 have h1 := h.since x hx
 have h2 := h.next x hx
 have h3 := h.n1
 have hd := done_prog k x (evR t x) 0 t n rfl rfl (evS_len t _ _) (by omega) h2 h3 (by omega) (by omega) (by omega) (by omega) (fun j hj => by
  show (evS t x.f1 x.f2)[j]? = some 112 ↔ _
  rw [evS_pend]
  constructor
  ·rintro ⟨g1, g2⟩; exact ⟨g1, by omega⟩
  ·rintro ⟨g1, g2⟩; exact ⟨g1, by omega⟩) ((cntN 97 x.f2 : Nat) : Int) ((cntN 101 x.f2 : Nat) : Int) ((cntN 114 x.f2 : Nat) : Int)
 have hs1 := nonP_sum x.f2 (h.stat x hx)
 have hs2 := nonP_sum (evS t x.f1 x.f2) (evS_ok t _ _ (h.stat x hx))
 have k1 := evS_cnt t 97 (by decide) (by decide) x.f2 x.f1
 have k3 := evS_cnt t 114 (by decide) (by decide) x.f2 x.f1
 have l2 := cnt_len (evS t x.f1 x.f2) 101
 have l3 := evS_len t x.f2 x.f1
 unfold evD
 refine (congrArg (fun o => Option.bind o _) hd).trans ?_
 show some _ = some _
 congr 1
 unfold progD evR
 dsimp only
 rw [u64_small (by omega) (by omega), k1, k3]
 congr 1
 omega
theorem evict_all {f n : Int} {r : List RD} (h : Inv f n r) (k : Nat) (t : Int) (ht : 0 ≤ t) (ht2 : t ≤ n) : ∀ l : List RD, (∀ x ∈ l, x ∈ r) → evL k t n (l.map progD) = some ((l.map (evR t)).map progD)
 | [], _ => rfl
 | x :: l, hl => by
  rw [List.map_cons, evL, evict_one h k x (hl x List.mem_cons_self) t ht ht2, evict_all h k t ht ht2 l (fun y hy => hl y (List.mem_cons_of_mem _ hy))]
  rfl
theorem evict_law {f n : Int} {r : List RD} (h : Inv f n r) (k : Nat) (t : Int) : ledger_Evict.f k f n (r.map progD) t = if f ≤ t ∧ t ≤ n then some (t, n, (r.map (evR t)).map progD, 0) else some (0, 0, [], 1) := by
 have h0 := h.f1
 unfold ledger_Evict.f
 by_cases c1 : t < f
 ·rw [if_pos c1, if_neg (by omega)]
 ·rw [if_neg c1]
  by_cases c2 : t > n
  ·rw [if_pos c2, if_neg (by omega)]
  ·rw [if_neg c2, if_pos (by rw [List.length_map]; exact h.big), if_pos (by omega), evict_all h k t (by omega) (by omega) r (fun _ hx => hx)]
   rfl
theorem w64' {x : Int} (h0 : -9223372036854775808 ≤ x) (h1 : x < 9223372036854775808) : wrap64 x = x := by unfold wrap64; omega
theorem u64_range (x : Int) : 0 ≤ Go.IntKind.u64.wrap x ∧ Go.IntKind.u64.wrap x < 18446744073709551616 := by rw [u64_wrap]; omega
/-- A destination that stands at its name's place. -/
theorem pN_none {nm : ByteArray} : ∀ {r : List RD}, ¬ pN nm r < r.length → ∀ x ∈ r, x.f0.toList ≠ nm.toList
 | [], _, x, hx => by simp at hx
 | y :: r, h, x, hx => by
  unfold pN at h
  by_cases c : y.f0.toList = nm.toList
  ·rw [if_pos c, List.length_cons] at h; omega
  ·rw [if_neg c, List.length_cons] at h
   rcases List.mem_cons.1 hx with rfl | hx
   ·exact c
   ·exact pN_none (by omega) x hx
theorem pN_at {nm : ByteArray} : ∀ {r : List RD} (h : pN nm r < r.length), r[pN nm r].f0.toList = nm.toList
 | [], h => by simp at h
 | y :: r, h => by
  by_cases c : y.f0.toList = nm.toList
  ·have e : pN nm (y :: r) = 0 := by unfold pN; rw [if_pos c]
   simp only [e, List.getElem_cons_zero]; exact c
  ·have e : pN nm (y :: r) = pN nm r + 1 := by rw [pN, if_neg c]
   simp only [e, List.getElem_cons_succ]
   exact pN_at (by rw [e, List.length_cons] at h; omega)
/-- What an act makes of the document's ledger; none: it is refused. -/
noncomputable def doA (kk : Int) (nm : ByteArray) (seq kd : Int) (f n : Int) (r : List RD) : Option (Int × Int × List RD) :=
 open Classical in
 if kk < 4 then some (f, n + 1, radd r)
 else if kk = 4 then (if nm ∈ okNames ∧ ¬ pN nm r < r.length ∧ r.length < 4 then some (f, n, r ++ [⟨nm, n, []⟩]) else none)
 else if kk = 5 then (if pN nm r < r.length then some (f, n, r.eraseIdx (pN nm r)) else none)
 else if kk < 10 then (if h : pN nm r < r.length then (if (kd = 97 ∨ kd = 114) ∧ isP r[pN nm r] seq then some (f, n, r.set (pN nm r) (setD r[pN nm r] (seq - r[pN nm r].f1).toNat kd)) else none) else none)
 else if f ≤ seq ∧ seq ≤ n then some (seq, n, r.map (evR seq)) else none
theorem DI.add {f n : Int} {x : RD} (h : DI f n x) (hf : f ≤ n) : DI f (n + 1) ⟨x.f0, x.f1, x.f2 ++ [112]⟩ :=
 ⟨h.since, by have := h.next; show n + 1 = x.f1 + ((x.f2 ++ [112]).length : Int); rw [List.length_append, List.length_singleton]; omega, h.name, fun b hb => by
  rcases List.mem_append.1 hb with hb | hb
  ·exact h.stat b hb
  ·exact Or.inl (List.mem_singleton.1 hb), fun i hi => by
  have hn := h.next
  by_cases c : i < x.f2.length
  ·rw [List.getElem?_append_left c] at hi
   exact h.pend i hi
  ·show f ≤ x.f1 + (i : Int); omega⟩
theorem radd_names (r : List RD) : (radd r).map (fun x => x.f0.toList) = r.map (fun x => x.f0.toList) := by
 unfold radd; rw [List.map_map]; rfl
theorem ev_names (t : Int) (r : List RD) : (r.map (evR t)).map (fun x => x.f0.toList) = r.map (fun x => x.f0.toList) := by
 rw [List.map_map]; rfl
theorem set_names (r : List RD) (i : Nat) (h : i < r.length) (y : RD) (e : y.f0 = r[i].f0) : (r.set i y).map (fun x => x.f0.toList) = r.map (fun x => x.f0.toList) := by
 rw [List.map_set, e]
 apply List.ext_getElem?
 intro j
 rw [List.getElem?_set]
 split
 ·rename_i g; subst g
  rw [List.length_map, if_pos h, List.getElem?_map, List.getElem?_eq_getElem h]; rfl
 ·rfl
theorem DI.done {f n : Int} {x : RD} (h : DI f n x) (i : Nat) (c : Int) (hc : c = 97 ∨ c = 114) : DI f n (setD x i c) :=
 ⟨h.since, by have := h.next; show n = x.f1 + ((x.f2.set i c).length : Int); rw [List.length_set]; exact this, h.name, okS_set h.stat i hc, fun j hj => by
  have hj' : (x.f2.set i c)[j]? = some 112 := hj
  rw [List.getElem?_set] at hj'
  split at hj'
  ·split at hj'
   ·rcases hc with rfl | rfl <;> simp at hj'
   ·simp at hj'
  ·exact h.pend j hj'⟩
theorem DI.ev {f n t : Int} {x : RD} (h : DI f n x) : DI t n (evR t x) :=
 ⟨h.since, by have := h.next; show n = x.f1 + ((evS t x.f1 x.f2).length : Int); rw [evS_len]; exact this, h.name, evS_ok t _ _ h.stat, fun j hj => by
  have := (evS_pend t x.f2 x.f1 j).1 hj
  show t ≤ x.f1 + (j : Int); omega⟩
theorem doA_inv {f n : Int} {r : List RD} (h : Inv f n r) (hn : n < 1000) (kk : Int) (nm : ByteArray) (seq kd : Int) {f' n' : Int} {r' : List RD} (e : doA kk nm seq kd f n r = some (f', n', r')) : Inv f' n' r' ∧ n ≤ n' ∧ n' ≤ n + 1 ∧ f ≤ f' := by
 classical
 have h1 := h.f1
 have h2 := h.fn
 unfold doA at e
 by_cases c1 : kk < 4
 ·rw [if_pos c1] at e
  cases e
  refine ⟨⟨h.f1, by omega, by omega, by rw [radd_len]; exact h.few, fun x hx => ?_, by rw [radd_names]; exact h.apart⟩, by omega, by omega, by omega⟩
  obtain ⟨y, hy, rfl⟩ := List.mem_map.1 hx
  exact (h.all y hy).add h.fn
 ·rw [if_neg c1] at e
  by_cases c2 : kk = 4
  ·rw [if_pos c2] at e
   split at e
   ·rename_i g
    obtain ⟨g1, g2, g3⟩ := g
    cases e
    refine ⟨⟨h.f1, h.fn, h.n1, by rw [List.length_append, List.length_singleton]; omega, fun x hx => ?_, ?_⟩, by omega, by omega, by omega⟩
    ·rcases List.mem_append.1 hx with hx | hx
     ·exact h.all x hx
     ·rw [List.mem_singleton.1 hx]
      exact ⟨by show 1 ≤ n; omega, by simp, g1, fun b hb => by simp at hb, fun i hi => by simp at hi⟩
    ·rw [List.map_append, List.pairwise_append]
     refine ⟨h.apart, by simp, fun a ha b hb => ?_⟩
     obtain ⟨x, hx, rfl⟩ := List.mem_map.1 ha
     simp only [List.map_cons, List.map_nil, List.mem_singleton] at hb
     subst hb
     exact pN_none g2 x hx
   ·cases e
  ·rw [if_neg c2] at e
   by_cases c3 : kk = 5
   ·rw [if_pos c3] at e
    split at e
    ·cases e
     refine ⟨⟨h.f1, h.fn, h.n1, ?_, fun x hx => h.all x (List.mem_of_mem_eraseIdx hx), ?_⟩, by omega, by omega, by omega⟩
     ·have := h.few
      have := (List.eraseIdx_sublist r (pN nm r)).length_le
      omega
     ·exact h.apart.sublist ((List.eraseIdx_sublist r (pN nm r)).map _)
    ·cases e
   ·rw [if_neg c3] at e
    by_cases c4 : kk < 10
    ·rw [if_pos c4] at e
     split at e
     ·rename_i hp
      split at e
      ·rename_i g
       obtain ⟨g1, g2⟩ := g
       cases e
       refine ⟨⟨h.f1, h.fn, h.n1, by rw [List.length_set]; exact h.few, fun x hx => ?_, by rw [set_names r (pN nm r) hp (setD r[pN nm r] (seq - r[pN nm r].f1).toNat kd) rfl]; exact h.apart⟩, by omega, by omega, by omega⟩
       rcases List.mem_or_eq_of_mem_set hx with hx | rfl
       ·exact h.all x hx
       ·exact (h.all _ (List.getElem_mem hp)).done _ _ g1
      ·cases e
     ·cases e
    ·rw [if_neg c4] at e
     split at e
     ·rename_i g
      cases e
      refine ⟨⟨by omega, g.2, h.n1, by rw [List.length_map]; exact h.few, fun x hx => ?_, by rw [ev_names]; exact h.apart⟩, by omega, by omega, g.1⟩
      obtain ⟨y, hy, rfl⟩ := List.mem_map.1 hx
      exact (h.all y hy).ev
     ·cases e
/-- What the program tells of Done. -/
theorem done_law {f n : Int} {r : List RD} (h : Inv f n r) (nm : ByteArray) (seq c : Int) (hq : 0 ≤ seq) :
  open Classical in
  Ev (fun k => ledger_Done.f k f n (r.map progD) nm seq c) (if g : pN nm r < r.length then (if c = 97 ∨ c = 114 then (if isP r[pN nm r] seq then (f, n, (r.set (pN nm r) (setD r[pN nm r] (seq - r[pN nm r].f1).toNat c)).map progD, 0) else (0, 0, [], 13)) else (0, 0, [], 1)) else (0, 0, [], 5)) := by
 classical
 by_cases g : pN nm r < r.length
 ·rw [dif_pos g]
  have hmem := List.getElem_mem g
  have hrd : rd_T55 (r.map progD) (pN nm r : Int) = progD r[pN nm r] := by
   unfold rd_T55
   rw [Int.toNat_natCast, List.getD_eq_getElem?_getD, List.getElem?_map, List.getElem?_eq_getElem g]; rfl
  by_cases c1 : c = 97 ∨ c = 114
  ·rw [if_pos c1]
   obtain ⟨K, hK⟩ := waits_ev r[pN nm r] (h.sm _ hmem) seq n (h.next _ hmem)
   refine ⟨K, fun k hk => ?_⟩
   have hw : ledger_Dest_waits.f k (progD r[pN nm r]).f0 (progD r[pN nm r]).f1 (progD r[pN nm r]).f2 (progD r[pN nm r]).f3 (progD r[pN nm r]).f4 (progD r[pN nm r]).f5 (progD r[pN nm r]).f6 seq n = some (decide (isP r[pN nm r] seq)) := hK k hk
   show ledger_Done.f k f n (r.map progD) nm seq c = _
   unfold ledger_Done.f
   rw [plN_prog, List.length_map, if_pos g, if_pos c1, hrd, hw, Option.bind_some]
   by_cases c2 : isP r[pN nm r] seq
   ·rw [if_pos (decide_eq_true c2), if_pos c2, if_pos h.big]
    obtain ⟨i, hi, e⟩ := c2
    have hd := done_one h k r[pN nm r] hmem i c c1 hi seq e
    have ei : (seq - r[pN nm r].f1).toNat = i := by omega
    rw [ei, List.map_set]
    obtain ⟨q, hq1, hq2⟩ := Option.bind_eq_some_iff.1 hd
    rw [hq1, Option.bind_some, Option.some.inj hq2]
   ·rw [if_neg (by simpa using c2), if_neg c2]
  ·rw [if_neg c1]
   refine ⟨0, fun k hk => ?_⟩
   show ledger_Done.f k f n (r.map progD) nm seq c = _
   unfold ledger_Done.f
   rw [plN_prog, List.length_map, if_pos g, if_neg c1]
 ·rw [dif_neg g]
  refine ⟨0, fun k hk => ?_⟩
  show ledger_Done.f k f n (r.map progD) nm seq c = _
  unfold ledger_Done.f
  rw [plN_prog, List.length_map, if_neg g]
abbrev St := Int × Int × List RD
def InvS (s : St) : Prop := Inv s.1 s.2.1 s.2.2
theorem inv_new : InvS (1, 1, []) := ⟨by decide, by decide, by decide, by decide, fun x hx => by simp at hx, List.Pairwise.nil⟩
theorem place_prog (r : List RD) (nm : ByteArray) : ledger_place.f (r.map progD) nm = some (pI nm r) := by rw [← plI_prog]; rfl
theorem rdP (r : List RD) (i : Nat) (h : i < r.length) : rd_T55 (r.map progD) (i : Int) = progD r[i] := by
 unfold rd_T55
 rw [Int.toNat_natCast, List.getD_eq_getElem?_getD, List.getElem?_map, List.getElem?_eq_getElem h]; rfl
theorem isP_lt {f n : Int} {x : RD} (h : DI f n x) {seq : Int} (hp : isP x seq) : f ≤ seq ∧ x.f1 ≤ seq ∧ x.f1 + (lowN x.f2 : Int) ≤ seq ∧ seq < n := by
 obtain ⟨i, h1, h2⟩ := hp
 have h3 := (List.getElem?_eq_some_iff.1 h1).1
 have h4 := h.next
 have h5 := h.pend i h1
 have h6 : ¬ i < lowN x.f2 := fun g => low_before x.f2 i g h1
 omega
theorem low_isP {x : RD} (h : lowN x.f2 < x.f2.length) : isP x (x.f1 + (lowN x.f2 : Int)) := ⟨lowN x.f2, low_at x.f2 h, rfl⟩
theorem w_nat {i : Nat} (h : i < 1000000) : wrap64 ((i : Int) + 1) = ((i + 1 : Nat) : Int) := by rw [w64 (by omega) (by omega)]; omega
/-- A destination is right. -/
theorem dright_l0 (nm : ByteArray) (s lo : Int) (ab : List Int) (c4 c5 c6 f n : Int) (L : List D) (hs : 1 ≤ s) (hlo : s ≤ lo) (hln : lo ≤ n) (hn : n ≤ 1000) (hsort : ab.Pairwise (· < ·)) (hin : ∀ y ∈ ab, lo < y ∧ y < n) (hlen : lo - s + (ab.length : Int) ≤ n - s) (hsum : c4 + c5 + c6 = lo - s + (ab.length : Int)) (hc : 0 ≤ c4 ∧ 0 ≤ c5 ∧ 0 ≤ c6) (hpend : n - s - (lo - s + (ab.length : Int)) = 0 ∨ f ≤ lo) : ∀ (d i : Nat) (last : Int), i + d = ab.length → (∀ y ∈ ab.drop i, last < y) → Ev (fun k => ledger_Dest_right.l0 k last ab (ab.length : Int) (i : Int) nm s lo ab c4 c5 c6 f n L) true
 | 0, i, last, hi, hlast => by
  refine Ev.stop fun k => ?_
  have e1 : Go.IntKind.u64.wrap (n - s) = n - s := u64_small (by omega) (by omega)
  have e2 : Go.IntKind.u64.wrap (lo - s) = lo - s := u64_small (by omega) (by omega)
  have e3 : Go.IntKind.u64.wrap (ab.length : Int) = (ab.length : Int) := u64_small (by omega) (by omega)
  have e4 : Go.IntKind.u64.wrap (lo - s + (ab.length : Int)) = lo - s + (ab.length : Int) := u64_small (by omega) (by omega)
  have e5 : Go.IntKind.u64.wrap (n - s - (lo - s + (ab.length : Int))) = n - s - (lo - s + (ab.length : Int)) := u64_small (by omega) (by omega)
  have e6 : Go.IntKind.u64.wrap (c4 + c5) = c4 + c5 := u64_small (by omega) (by omega)
  have e7 : Go.IntKind.u64.wrap (c4 + c5 + c6) = c4 + c5 + c6 := u64_small (by omega) (by omega)
  rw [ledger_Dest_right.l0, if_neg (by omega), e1, e2, e3, e4, e5, e6, e7]
  have e8 : (c4 + c5 + c6 == lo - s + (ab.length : Int)) = true := by simpa using hsum
  rw [e8]
  by_cases c : n - s - (lo - s + (ab.length : Int)) = 0
  ·rw [if_pos c]
  ·rw [if_neg c, if_pos (by omega)]
 | d + 1, i, last, hi, hlast => by
  have hlt : i < ab.length := by omega
  have hdr : ab.drop i = ab[i] :: ab.drop (i + 1) := List.drop_eq_getElem_cons hlt
  have hp := hsort.sublist (List.drop_sublist i ab)
  rw [hdr, List.pairwise_cons] at hp
  have hle : (i : Int) < (ab.length : Int) := Int.ofNat_lt.2 hlt
  have h1 := hlast ab[i] (by rw [hdr]; exact List.mem_cons_self)
  have h2 := hin ab[i] (List.getElem_mem hlt)
  have ih := dright_l0 nm s lo ab c4 c5 c6 f n L hs hlo hln hn hsort hin hlen hsum hc hpend d (i + 1) ab[i] (by omega) hp.1
  have e : wrap64 ((i : Int) + 1) = ((i + 1 : Nat) : Int) := w_nat (by clear hsum hc hpend hin ih hp hlast h1 h2; omega)
  refine Ev.step (fun k => ?_) ih
  rw [ledger_Dest_right.l0, if_pos hle, if_pos (Int.natCast_nonneg i), if_pos hle, rd_at ab i hlt, if_neg (Int.not_le.2 h1), if_neg (Int.not_le.2 h2.2), e]
theorem dright_ev {f n : Int} {x : RD} (h : DI f n x) (hn : n ≤ 1000) (hf : f ≤ n) (L : List D) : Ev (fun k => ledger_Dest_right.f k (progD x).f0 (progD x).f1 (progD x).f2 (progD x).f3 (progD x).f4 (progD x).f5 (progD x).f6 f n L) true := by
 have h1 := h.since
 have h2 := h.next
 have hlo := lowN_le x.f2
 have hal := abv_len x.f2 x.f1
 have hnp := nonP_sum x.f2 h.stat
 have hnl : nonP x.f2 ≤ x.f2.length := List.countP_le_length
 have hpend : n - x.f1 - (x.f1 + (lowN x.f2 : Int) - x.f1 + ((abvL (x.f1 + (lowN x.f2 : Int)) x.f1 x.f2).length : Int)) = 0 ∨ f ≤ x.f1 + (lowN x.f2 : Int) := by
  by_cases c : lowN x.f2 < x.f2.length
  ·right
   have := isP_lt h (low_isP c)
   omega
  ·right; omega
 have hin : ∀ y ∈ abvL (x.f1 + (lowN x.f2 : Int)) x.f1 x.f2, x.f1 + (lowN x.f2 : Int) < y ∧ y < n := fun y hy => by
  obtain ⟨i, b, g1, g2, g3, g4⟩ := (mem_abvL _ _ _ _).1 hy
  have := (List.getElem?_eq_some_iff.1 g1).1
  clear hal hnp hnl hpend
  omega
 have a1 : x.f1 ≤ x.f1 + (lowN x.f2 : Int) := by clear hal hnp hnl hpend hin; omega
 have a2 : x.f1 + (lowN x.f2 : Int) ≤ n := by clear hal hnp hnl hpend hin; omega
 have a3 : x.f1 + (lowN x.f2 : Int) - x.f1 + ((abvL (x.f1 + (lowN x.f2 : Int)) x.f1 x.f2).length : Int) ≤ n - x.f1 := by clear hnp hpend hin; omega
 have a4 : ((cntN 97 x.f2 : Nat) : Int) + ((cntN 101 x.f2 : Nat) : Int) + ((cntN 114 x.f2 : Nat) : Int) = x.f1 + (lowN x.f2 : Int) - x.f1 + ((abvL (x.f1 + (lowN x.f2 : Int)) x.f1 x.f2).length : Int) := by clear hnl hpend hin a1 a2 a3; omega
 have hl := dright_l0 x.f0 x.f1 (x.f1 + (lowN x.f2 : Int)) (abvL (x.f1 + (lowN x.f2 : Int)) x.f1 x.f2) ((cntN 97 x.f2 : Nat) : Int) ((cntN 101 x.f2 : Nat) : Int) ((cntN 114 x.f2 : Nat) : Int) f n L h1 a1 a2 hn (abvL_sorted _ _ _) hin a3 a4 ⟨Int.natCast_nonneg _, Int.natCast_nonneg _, Int.natCast_nonneg _⟩ hpend (abvL (x.f1 + (lowN x.f2 : Int)) x.f1 x.f2).length 0 (x.f1 + (lowN x.f2 : Int)) (Nat.zero_add _) (fun y hy => by
   rw [List.drop_zero] at hy
   exact (hin y hy).1)
 have hnm := (name_ok x.f0 h.name).1
 have e : decide (n < x.f1 + (lowN x.f2 : Int)) = false := decide_eq_false (by omega)
 have hj : Ev (fun k => ledger_Dest_right.j0 k false x.f0 x.f1 (x.f1 + (lowN x.f2 : Int)) (abvL (x.f1 + (lowN x.f2 : Int)) x.f1 x.f2) ((cntN 97 x.f2 : Nat) : Int) ((cntN 101 x.f2 : Nat) : Int) ((cntN 114 x.f2 : Nat) : Int) f n L) true := by
  refine Ev.step (fun k => ?_) hl
  rw [ledger_Dest_right.j0, if_neg (by decide)]; rfl
 refine Ev.congr (fun k => ?_) hj
 show ledger_Dest_right.f k x.f0 x.f1 (x.f1 + (lowN x.f2 : Int)) (abvL (x.f1 + (lowN x.f2 : Int)) x.f1 x.f2) ((cntN 97 x.f2 : Nat) : Int) ((cntN 101 x.f2 : Nat) : Int) ((cntN 114 x.f2 : Nat) : Int) f n L = _
 unfold ledger_Dest_right.f
 rw [hnm, Option.bind_some, if_pos rfl, if_neg (by omega), if_neg (by omega), e]
theorem pN_ge (nm : ByteArray) : ∀ {r : List RD}, (∀ x ∈ r, x.f0.toList ≠ nm.toList) → ¬ pN nm r < r.length := fun h g => h _ (List.getElem_mem g) (pN_at g)
theorem right_l0 {f n : Int} {r : List RD} (h : Inv f n r) : ∀ (d i : Nat), i + d = r.length → Ev (fun k => ledger_Right.l0 k (r.map progD) (r.length : Int) (i : Int) f n (r.map progD)) true
 | 0, i, hi => by
  refine Ev.stop fun k => ?_
  rw [ledger_Right.l0, if_neg (by omega)]
 | d + 1, i, hi => by
  have hlt : i < r.length := by omega
  have hbig := h.big
  have hd := dright_ev (h.all _ (List.getElem_mem hlt)) h.n1 h.fn (r.map progD)
  have ih := right_l0 h d (i + 1) (by omega)
  have e : wrap64 ((i : Int) + 1) = ((i + 1 : Nat) : Int) := by rw [w64 (by omega) (by omega)]; omega
  have hno : ¬ pN (progD r[i]).f0 (r.take i) < (r.take i).length := pN_ge _ (fun x hx g => by
   obtain ⟨j, hj, rfl⟩ := List.mem_iff_getElem.1 hx
   rw [List.length_take] at hj
   rw [List.getElem_take] at g
   have := List.pairwise_iff_getElem.1 h.apart j i (by rw [List.length_map]; omega) (by rw [List.length_map]; omega) (by omega)
   simp only [List.getElem_map] at this
   exact this g)
  obtain ⟨K, hK⟩ := hd
  obtain ⟨K', hK'⟩ := ih
  refine ⟨K + K' + 1, fun k hk => ?_⟩
  obtain ⟨k, rfl⟩ : ∃ j, k = j + 1 := ⟨k - 1, by omega⟩
  have q1 : ledger_Dest_right.f k (progD r[i]).f0 (progD r[i]).f1 (progD r[i]).f2 (progD r[i]).f3 (progD r[i]).f4 (progD r[i]).f5 (progD r[i]).f6 f n (r.map progD) = some true := hK k (by omega)
  show ledger_Right.l0 (k + 1) (r.map progD) (r.length : Int) (i : Int) f n (r.map progD) = _
  rw [ledger_Right.l0, if_pos (by omega), if_pos (by omega), if_pos (by rw [List.length_map]; omega), rdP r i hlt, q1, Option.bind_some, if_pos rfl, if_pos (by rw [List.length_map]; omega), Int.toNat_natCast, ← List.map_take, place_prog, Option.bind_some, show pI (progD r[i]).f0 (r.take i) = -1 from if_neg hno, if_neg (by omega), e]
  exact hK' k (by omega)
theorem right_law {f n : Int} {r : List RD} (h : Inv f n r) : Ev (fun k => ledger_Right.f k f n (r.map progD)) true := by
 have hl := right_l0 h r.length 0 (by omega)
 have h1 := h.f1
 have h2 := h.fn
 have h3 := h.few
 have e : decide (((r.map progD).length : Int) > 4) = false := decide_eq_false (by rw [List.length_map]; omega)
 have hj : Ev (fun k => ledger_Right.j0 k false f n (r.map progD)) true := by
  refine Ev.step (fun k => ?_) hl
  rw [ledger_Right.j0, if_neg (by decide), List.length_map]; rfl
 refine Ev.congr (fun k => ?_) hj
 show ledger_Right.f k f n (r.map progD) = _
 unfold ledger_Right.f
 rw [if_neg (by omega), if_neg (by omega), e]
end Go.Proofs.YtmbigoeldobaiaaDoor.Ldg
