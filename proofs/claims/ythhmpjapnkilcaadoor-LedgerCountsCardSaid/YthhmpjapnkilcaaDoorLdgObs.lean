/- The plain law of chapter 10, fourth part: what is told of a ledger. Conditions: those that each theorem names. -/
import Derived.Test.YthhmpjapnkilcaaDoorLdgLaw
import Derived.Test.YthhmpjapnkilcaaDoorXLdgP1
import Derived.Test.YthhmpjapnkilcaaDoorXLdgP2
import Derived.Test.YthhmpjapnkilcaaDoorXLdgP5
import Derived.Test.YthhmpjapnkilcaaDoorXLdgP3
import Derived.Test.YthhmpjapnkilcaaDoorXLdgP4
namespace Go.Proofs.YthhmpjapnkilcaaDoor.Ldg
open Go.Proofs.YthhmpjapnkilcaaDoorW.PrintWords hiding encs
open Go.RowKit Go.Proofs.YthhmpjapnkilcaaDoorW.PrintLast Go.Proofs.YthhmpjapnkilcaaDoorW.PrintMore Go.Proofs.YthhmpjapnkilcaaDoor.Num Go.Proofs.YthhmpjapnkilcaaDoor.XLdg
set_option linter.unusedVariables false
set_option linter.unusedSimpArgs false
theorem place_prog (r : List RD) (nm : ByteArray) : ledger_place.f (r.map progD) nm = some (pI nm r) := by rw [← plI_prog]; rfl
theorem rdP (r : List RD) (i : Nat) (h : i < r.length) : rd_T37 (r.map progD) (i : Int) = progD r[i] := by
 unfold rd_T37
 rw [Int.toNat_natCast, List.getD_eq_getElem?_getD, List.getElem?_map, List.getElem?_eq_getElem h]; rfl
theorem find_yes {f n : Int} {r : List RD} (h : Inv f n r) (nm : ByteArray) (hp : pN nm r < r.length) : ledger_Find.f f n (r.map progD) nm = some ((progD r[pN nm r]).f0, (progD r[pN nm r]).f1, (progD r[pN nm r]).f2, (progD r[pN nm r]).f3, (progD r[pN nm r]).f4, (progD r[pN nm r]).f5, (progD r[pN nm r]).f6, true) := by
 have hb := h.big
 have hs := h.sm _ (List.getElem_mem hp)
 have hlen := abvL_len (r[pN nm r].f1 + (lowN r[pN nm r].f2 : Int)) r[pN nm r].f2 r[pN nm r].f1
 have hle := hs.len
 unfold ledger_Find.f
 rw [place_prog, Option.bind_some, show pI nm r = (pN nm r : Int) from if_pos hp, if_neg (by omega), if_pos (by omega), if_pos (by rw [List.length_map]; omega), rdP r _ hp]
 unfold slices_Clone_uint64_uint64.f
 first
 | rfl
 | (rw [if_pos (by show (abvL _ _ _).length ≤ _; omega)]; rfl)
theorem find_no {f n : Int} {r : List RD} (nm : ByteArray) (hp : ¬ pN nm r < r.length) : ledger_Find.f f n (r.map progD) nm = some ((⟨#[]⟩ : ByteArray), 0, 0, [], 0, 0, 0, false) := by
 unfold ledger_Find.f
 rw [place_prog, Option.bind_some, show pI nm r = -1 from if_neg hp, if_pos (by omega)]
open Classical in
/-- Whether a name waits for an entry. -/
noncomputable def waitsA (r : List RD) (nm : ByteArray) (seq : Int) : Bool := if h : pN nm r < r.length then decide (isP r[pN nm r] seq) else false
theorem waits_law {f n : Int} {r : List RD} (h : Inv f n r) (nm : ByteArray) (seq : Int) : Ev (fun k => ledger_Waits.f k f n (r.map progD) nm seq) (waitsA r nm seq) := by
 classical
 by_cases hp : pN nm r < r.length
 ·have hm := List.getElem_mem hp
  obtain ⟨K, hK⟩ := waits_ev r[pN nm r] (h.sm _ hm) seq n (h.next _ hm)
  refine ⟨K, fun k hk => ?_⟩
  have e : ledger_Dest_waits.f k (progD r[pN nm r]).f0 (progD r[pN nm r]).f1 (progD r[pN nm r]).f2 (progD r[pN nm r]).f3 (progD r[pN nm r]).f4 (progD r[pN nm r]).f5 (progD r[pN nm r]).f6 seq n = some (decide (isP r[pN nm r] seq)) := hK k hk
  show ledger_Waits.f k f n (r.map progD) nm seq = _
  unfold ledger_Waits.f waitsA
  rw [find_yes h nm hp, Option.bind_some, if_pos rfl, dif_pos hp]
  exact (congrArg (fun o => Option.bind o fun t => some t) e)
 ·refine ⟨0, fun k hk => ?_⟩
  show ledger_Waits.f k f n (r.map progD) nm seq = _
  unfold ledger_Waits.f waitsA
  rw [find_no nm hp, Option.bind_some, dif_neg hp]
  rfl
theorem isP_lt {f n : Int} {x : RD} (h : DI f n x) {seq : Int} (hp : isP x seq) : f ≤ seq ∧ x.f1 ≤ seq ∧ x.f1 + (lowN x.f2 : Int) ≤ seq ∧ seq < n := by
 obtain ⟨i, h1, h2⟩ := hp
 have h3 := (List.getElem?_eq_some_iff.1 h1).1
 have h4 := h.next
 have h5 := h.pend i h1
 have h6 : ¬ i < lowN x.f2 := fun g => low_before x.f2 i g h1
 omega
/-- The entries that are pending. -/
def pendL : Int → List Int → List Int
 | _, [] => []
 | x, b :: r => if b = 112 then x :: pendL (x + 1) r else pendL (x + 1) r
theorem mem_pendL : ∀ (l : List Int) (x y : Int), y ∈ pendL x l ↔ ∃ i : Nat, l[i]? = some 112 ∧ y = x + (i : Int)
 | [], x, y => by simp [pendL]
 | b :: r, x, y => by
  have ih := mem_pendL r (x + 1) y
  have key : (∃ i : Nat, r[i]? = some 112 ∧ y = x + 1 + (i : Int)) → ∃ i : Nat, (b :: r)[i]? = some 112 ∧ y = x + (i : Int) := by
   rintro ⟨i, h1, h2⟩
   exact ⟨i + 1, by rw [List.getElem?_cons_succ]; exact h1, by omega⟩
  have back : ∀ i : Nat, (b :: r)[i + 1]? = some 112 → y = x + ((i + 1 : Nat) : Int) → y ∈ pendL (x + 1) r := fun i h1 h2 => by
   rw [List.getElem?_cons_succ] at h1
   exact ih.2 ⟨i, h1, by omega⟩
  unfold pendL
  by_cases c : b = 112
  ·rw [if_pos c, List.mem_cons]
   constructor
   ·rintro (rfl | h)
    ·exact ⟨0, by rw [c]; rfl, by simp⟩
    ·exact key (ih.1 h)
   ·rintro ⟨i, h1, h2⟩
    cases i with
    | zero => left; simpa using h2
    | succ i => right; exact back i h1 h2
  ·rw [if_neg c]
   refine ⟨fun h => key (ih.1 h), ?_⟩
   rintro ⟨i, h1, h2⟩
   cases i with
   | zero => simp at h1; exact absurd h1 c
   | succ i => exact back i h1 h2
theorem pendL_sorted : ∀ (l : List Int) (x : Int), (pendL x l).Pairwise (· < ·)
 | [], x => List.Pairwise.nil
 | b :: r, x => by
  have ih := pendL_sorted r (x + 1)
  unfold pendL
  split
  ·refine List.Pairwise.cons (fun y hy => ?_) ih
   obtain ⟨i, _, h⟩ := (mem_pendL r (x + 1) y).1 hy
   omega
  ·exact ih
theorem pendL_len (l : List Int) : ∀ x, (pendL x l).length = cntN 112 l := by
 induction l with
 | nil => intro x; rfl
 | cons b r ih =>
  intro x
  unfold pendL
  by_cases c : b = 112
  ·rw [if_pos c, cntN_p c, List.length_cons, ih]
  ·rw [if_neg c, cntN_s c, ih]
theorem mem_pendL_isP (x : RD) (y : Int) : y ∈ pendL x.f1 x.f2 ↔ isP x y := mem_pendL x.f2 x.f1 y
/-- What a name waits for. -/
def pendA (r : List RD) (nm : ByteArray) : List Int := if h : pN nm r < r.length then pendL r[pN nm r].f1 r[pN nm r].f2 else []
theorem mem_pendA {r : List RD} {nm : ByteArray} {y : Int} : y ∈ pendA r nm ↔ waitsA r nm y = true := by
 classical
 unfold pendA waitsA
 by_cases h : pN nm r < r.length
 ·rw [dif_pos h, dif_pos h, mem_pendL_isP, decide_eq_true_iff]
 ·rw [dif_neg h, dif_neg h]; simp
theorem pendA_sorted (r : List RD) (nm : ByteArray) : (pendA r nm).Pairwise (· < ·) := by
 unfold pendA
 split
 ·exact pendL_sorted _ _
 ·exact List.Pairwise.nil
/-- Those of a span that are waited for. -/
noncomputable def scanA (w : Int → Bool) : Nat → Int → List Int
 | 0, _ => []
 | m + 1, s => if w s = true then s :: scanA w m (s + 1) else scanA w m (s + 1)
theorem mem_scanA (w : Int → Bool) : ∀ (m : Nat) (s y : Int), y ∈ scanA w m s ↔ w y = true ∧ s ≤ y ∧ y < s + (m : Int)
 | 0, s, y => by first | (simp [scanA]; done) | (simp [scanA]; omega)
 | m + 1, s, y => by
  have ih := mem_scanA w m (s + 1) y
  unfold scanA
  by_cases c : w s = true
  ·rw [if_pos c, List.mem_cons, ih]
   constructor
   ·rintro (rfl | ⟨h1, h2, h3⟩)
    ·exact ⟨c, by omega, by omega⟩
    ·exact ⟨h1, by omega, by omega⟩
   ·rintro ⟨h1, h2, h3⟩
    by_cases e : y = s
    ·exact Or.inl e
    ·exact Or.inr ⟨h1, by omega, by omega⟩
  ·rw [if_neg c, ih]
   constructor
   ·rintro ⟨h1, h2, h3⟩; exact ⟨h1, by omega, by omega⟩
   ·rintro ⟨h1, h2, h3⟩
    have e : y ≠ s := fun e => c (e ▸ h1)
    exact ⟨h1, by omega, by omega⟩
theorem scanA_sorted (w : Int → Bool) : ∀ (m : Nat) (s : Int), (scanA w m s).Pairwise (· < ·)
 | 0, s => List.Pairwise.nil
 | m + 1, s => by
  have ih := scanA_sorted w m (s + 1)
  unfold scanA
  split
  ·refine List.Pairwise.cons (fun y hy => ?_) ih
   have := ((mem_scanA w m (s + 1) y).1 hy).2.1
   omega
  ·exact ih
theorem pend_l0 {f n : Int} {r : List RD} (h : Inv f n r) (x : RD) (hx : x ∈ r) : open Classical in ∀ (m : Nat) (s : Int) (acc : List Int), 0 ≤ s → s + (m : Int) = n → acc.length + m ≤ 1000000 → Ev (fun k => ledger_Pending.l0 k true acc s f n (r.map progD) (progD x).f0 (progD x).f1 (progD x).f2 (progD x).f3 (progD x).f4 (progD x).f5 (progD x).f6) (acc ++ scanA (fun y => decide (isP x y)) m s)
 | 0, s, acc, h0, hm, ha => by
  classical
  refine ⟨2, fun k hk => ?_⟩
  obtain ⟨k, rfl⟩ : ∃ j, k = j + 2 := ⟨k - 2, by omega⟩
  show ledger_Pending.l0 (k + 2) true acc s f n (r.map progD) (progD x).f0 (progD x).f1 (progD x).f2 (progD x).f3 (progD x).f4 (progD x).f5 (progD x).f6 = _
  have e : decide (s < n) = false := decide_eq_false (by omega)
  rw [ledger_Pending.l0, if_pos rfl, ledger_Pending.j1, e, if_neg (by decide), scanA, List.append_nil]
 | m + 1, s, acc, h0, hm, ha => by
  classical
  have h3 := h.n1
  have e : decide (s < n) = true := decide_eq_true (by omega)
  have hw := waits_ev x (h.sm x hx) s n (h.next x hx)
  obtain ⟨K, hK⟩ := hw
  have hu : Go.IntKind.u64.wrap (s + 1) = s + 1 := u64_small (by omega) (by omega)
  by_cases c : isP x s
  ·obtain ⟨K', hK'⟩ := pend_l0 h x hx m (s + 1) (acc ++ [s]) (by omega) (by omega) (by rw [List.length_append, List.length_singleton]; omega)
   refine ⟨K + K' + 2, fun k hk => ?_⟩
   obtain ⟨k, rfl⟩ : ∃ j, k = j + 2 := ⟨k - 2, by omega⟩
   have q1 : ledger_Dest_waits.f k (progD x).f0 (progD x).f1 (progD x).f2 (progD x).f3 (progD x).f4 (progD x).f5 (progD x).f6 s n = some (decide (isP x s)) := hK k (by omega)
   have q2 : ledger_Pending.l0 k true (acc ++ [s]) (s + 1) f n (r.map progD) (progD x).f0 (progD x).f1 (progD x).f2 (progD x).f3 (progD x).f4 (progD x).f5 (progD x).f6 = _ := hK' k (by omega)
   show ledger_Pending.l0 (k + 2) true acc s f n (r.map progD) (progD x).f0 (progD x).f1 (progD x).f2 (progD x).f3 (progD x).f4 (progD x).f5 (progD x).f6 = _
   rw [ledger_Pending.l0, if_pos rfl, ledger_Pending.j1, e, if_pos rfl, q1, Option.bind_some, if_pos (decide_eq_true c), if_pos (by omega), hu, q2, scanA, if_pos (decide_eq_true c), List.append_assoc]
   rfl
  ·obtain ⟨K', hK'⟩ := pend_l0 h x hx m (s + 1) acc (by omega) (by omega) (by omega)
   refine ⟨K + K' + 2, fun k hk => ?_⟩
   obtain ⟨k, rfl⟩ : ∃ j, k = j + 2 := ⟨k - 2, by omega⟩
   have q1 : ledger_Dest_waits.f k (progD x).f0 (progD x).f1 (progD x).f2 (progD x).f3 (progD x).f4 (progD x).f5 (progD x).f6 s n = some (decide (isP x s)) := hK k (by omega)
   have q2 : ledger_Pending.l0 k true acc (s + 1) f n (r.map progD) (progD x).f0 (progD x).f1 (progD x).f2 (progD x).f3 (progD x).f4 (progD x).f5 (progD x).f6 = _ := hK' k (by omega)
   have c' : ¬ decide (isP x s) = true := by simpa using c
   show ledger_Pending.l0 (k + 2) true acc s f n (r.map progD) (progD x).f0 (progD x).f1 (progD x).f2 (progD x).f3 (progD x).f4 (progD x).f5 (progD x).f6 = _
   rw [ledger_Pending.l0, if_pos rfl, ledger_Pending.j1, e, if_pos rfl, q1, Option.bind_some, if_neg c', hu, q2, scanA, if_neg c']
theorem pending_law {f n : Int} {r : List RD} (h : Inv f n r) (nm : ByteArray) : Ev (fun k => ledger_Pending.f k f n (r.map progD) nm) (pendA r nm) := by
 classical
 unfold pendA
 by_cases hp : pN nm r < r.length
 ·have hm := List.getElem_mem hp
  have hd := h.all _ hm
  have hn := hd.next
  have hs := hd.since
  have hlo := lowN_le r[pN nm r].f2
  have h3 := h.n1
  rw [dif_pos hp]
  obtain ⟨K, hK⟩ := pend_l0 h r[pN nm r] hm (n - (r[pN nm r].f1 + (lowN r[pN nm r].f2 : Int))).toNat (r[pN nm r].f1 + (lowN r[pN nm r].f2 : Int)) [] (by omega) (by omega) (by rw [List.length_nil]; omega)
  refine ⟨K, fun k hk => ?_⟩
  show ledger_Pending.f k f n (r.map progD) nm = _
  unfold ledger_Pending.f
  rw [find_yes h nm hp, Option.bind_some]
  refine (hK k hk).trans ?_
  rw [List.nil_append]
  congr 1
  refine sort_eq _ _ (scanA_sorted _ _ _) (pendL_sorted _ _) (fun y => ?_)
  rw [mem_scanA, mem_pendL_isP, decide_eq_true_iff]
  constructor
  ·exact fun g => g.1
  ·intro g
   have := isP_lt hd g
   exact ⟨g, by omega, by omega⟩
 ·rw [dif_neg hp]
  refine ⟨2, fun k hk => ?_⟩
  obtain ⟨k, rfl⟩ : ∃ j, k = j + 2 := ⟨k - 2, by omega⟩
  show ledger_Pending.f (k + 2) f n (r.map progD) nm = _
  unfold ledger_Pending.f
  rw [find_no nm hp, Option.bind_some]
  show ledger_Pending.l0 (k + 2) false [] 0 f n (r.map progD) _ 0 0 [] 0 0 0 = _
  rw [ledger_Pending.l0, if_neg (by decide), ledger_Pending.j1, if_neg (by decide)]
/-- The first that one waits for. -/
def freeA (n : Int) (r : List RD) : Int := r.foldl (fun m x => mn m (x.f1 + (lowN x.f2 : Int))) n
/-- Of names that are apart each stands at its place. -/
theorem pN_self : ∀ {r : List RD} (h : (r.map (fun x => x.f0.toList)).Pairwise (· ≠ ·)) (i : Nat) (hi : i < r.length), pN r[i].f0 r = i
 | [], h, i, hi => by simp at hi
 | y :: r, h, i, hi => by
  rw [List.map_cons, List.pairwise_cons] at h
  cases i with
  | zero => rw [List.getElem_cons_zero, pN, if_pos rfl]
  | succ i =>
   have hi' : i < r.length := by simpa using hi
   rw [List.getElem_cons_succ, pN, if_neg (h.1 _ (List.mem_map.2 ⟨r[i], List.getElem_mem hi', rfl⟩)), pN_self h.2 i hi']
theorem waitsA_at {f n : Int} {r : List RD} (h : Inv f n r) (i : Nat) (hi : i < r.length) (seq : Int) : waitsA r r[i].f0 seq = true ↔ isP r[i] seq := by
 classical
 unfold waitsA
 have e := pN_self h.apart i hi
 rw [dif_pos (by rw [e]; exact hi), decide_eq_true_iff]
 simp only [e]
theorem w_nat {i : Nat} (h : i < 1000000) : wrap64 ((i : Int) + 1) = ((i + 1 : Nat) : Int) := by rw [w64 (by omega) (by omega)]; omega
end Go.Proofs.YthhmpjapnkilcaaDoor.Ldg
