/- The plain law of chapter 10, first part: what the document's small functions come to. Conditions: those that each theorem names. -/
import Derived.Test.YthhmpjapnkilcaaDoorGShown
import Derived.Test.YthhmpjapnkilcaaDoorLdgBs
import Derived.Test.YthhmpjapnkilcaaDoorXLdgP1
import Derived.Test.YthhmpjapnkilcaaDoorXLdgP4
import Derived.Test.YthhmpjapnkilcaaDoorXLdgP2
import Derived.Test.YthhmpjapnkilcaaDoorXLdgP3
namespace Go.Proofs.YthhmpjapnkilcaaDoor.Ldg
open Go.Proofs.YthhmpjapnkilcaaDoorW.PrintWords hiding encs
open Go.RowKit Go.Proofs.YthhmpjapnkilcaaDoorW.PrintLast Go.Proofs.YthhmpjapnkilcaaDoorW.PrintMore Go.Proofs.YthhmpjapnkilcaaDoor.Num Go.Proofs.YthhmpjapnkilcaaDoor.XLdg
set_option linter.unusedVariables false
set_option linter.unusedSimpArgs false
theorem Ev.stop {α : Type} {g : Nat → Option α} {r : α} (h : ∀ k, g (k + 1) = some r) : Ev g r := Ev.step (f := fun _ => some r) h (Ev.now r)
theorem rd_at (l : List Int) (i : Nat) (h : i < l.length) : rd l (i : Int) = l[i] := by
 unfold rd; rw [Int.toNat_natCast, List.getD_eq_getElem?_getD, List.getElem?_eq_getElem h]; rfl
theorem w64 {x : Int} (h0 : 0 ≤ x) (h1 : x < 9223372036854775808) : wrap64 x = x := by unfold wrap64; omega
/-- The place of the first that is pending. -/
def lowN (l : List Int) : Nat := (l.takeWhile (fun b => b != 112)).length
def cntN (c : Int) (l : List Int) : Nat := l.countP (fun b => b == c)
/-- Whose numbers stay small. -/
structure Sm (s : Int) (l : List Int) : Prop where
 s0 : 0 ≤ s
 len : s + l.length < 1000000000000000000
theorem lowN_p {x : Int} {l : List Int} (h : x = 112) : lowN (x :: l) = 0 := by subst h; rfl
theorem lowN_s {x : Int} {l : List Int} (h : x ≠ 112) : lowN (x :: l) = lowN l + 1 := by
 unfold lowN; rw [List.takeWhile_cons, if_pos (by simpa using h)]; rfl
theorem cntN_p {c x : Int} {l : List Int} (h : x = c) : cntN c (x :: l) = cntN c l + 1 := List.countP_cons_of_pos (by simpa using h)
theorem cntN_s {c x : Int} {l : List Int} (h : x ≠ c) : cntN c (x :: l) = cntN c l := List.countP_cons_of_neg (by simpa using h)
theorem low_l (nm : ByteArray) (s : Int) (l : List Int) (hs : Sm s l) : ∀ (d i : Nat), i + d = l.length → Ev (fun k => postroomref10_Low.l0 k (i : Int) nm s l) (s + ((i + lowN (l.drop i) : Nat) : Int))
 | 0, i, hi => by
  have h1 := hs.s0
  have h2 := hs.len
  refine Ev.stop fun k => ?_
  rw [postroomref10_Low.l0, if_neg (by omega), List.drop_eq_nil_of_le (by omega), u64_id (x := (l.length : Int)) (by omega) (by omega), u64_id (by omega) (by omega)]
  simp [lowN]; omega
 | d + 1, i, hi => by
  have h1 := hs.s0
  have h2 := hs.len
  have hlt : i < l.length := by omega
  have hdr : l.drop i = l[i] :: l.drop (i + 1) := List.drop_eq_getElem_cons hlt
  by_cases c : l[i] = 112
  ·refine Ev.stop fun k => ?_
   rw [postroomref10_Low.l0, if_pos (by omega), if_pos (by omega), rd_at l i hlt, if_pos c, u64_id (x := (i : Int)) (by omega) (by omega), u64_id (by omega) (by omega), hdr, lowN_p c]
   simp
  ·have ih := low_l nm s l hs d (i + 1) (by omega)
   have e : ((i + 1 + lowN (l.drop (i + 1)) : Nat) : Int) = ((i + lowN (l.drop i) : Nat) : Int) := by
    rw [hdr, lowN_s c]; omega
   rw [e] at ih
   refine Ev.step (fun k => ?_) ih
   rw [postroomref10_Low.l0, if_pos (by omega), if_pos (by omega), rd_at l i hlt, if_neg c, w64 (by omega) (by omega)]
   rfl
theorem low_ev (nm : ByteArray) (s : Int) (l : List Int) (hs : Sm s l) : Ev (fun k => postroomref10_Low.f k nm s l) (s + (lowN l : Int)) := by
 have h := low_l nm s l hs l.length 0 (by omega)
 rw [List.drop_zero, Nat.zero_add] at h
 exact h
theorem cnt_l (c : Int) (nm : ByteArray) (s : Int) (l : List Int) (hs : Sm s l) : ∀ (d i : Nat) (n : Nat), i + d = l.length → n ≤ i → Ev (fun k => postroomref10_Count.l0 k c (n : Int) (i : Int) nm s l) ((n + cntN c (l.drop i) : Nat) : Int)
 | 0, i, n, hi, hn => by
  refine Ev.stop fun k => ?_
  rw [postroomref10_Count.l0, if_neg (by omega), List.drop_eq_nil_of_le (by omega)]
  simp [cntN]
 | d + 1, i, n, hi, hn => by
  have h1 := hs.s0
  have h2 := hs.len
  have hlt : i < l.length := by omega
  have hdr : l.drop i = l[i] :: l.drop (i + 1) := List.drop_eq_getElem_cons hlt
  by_cases cc : l[i] = c
  ·have ih := cnt_l c nm s l hs d (i + 1) (n + 1) (by omega) (by omega)
   have e : (n + 1 + cntN c (l.drop (i + 1))) = (n + cntN c (l.drop i)) := by rw [hdr, cntN_p cc]; omega
   rw [e] at ih
   refine Ev.step (fun k => ?_) ih
   rw [postroomref10_Count.l0, if_pos (by omega), if_pos (by omega), rd_at l i hlt, if_pos cc, w64 (by omega) (by omega), u64_id (by omega) (by omega)]
   rfl
  ·have ih := cnt_l c nm s l hs d (i + 1) n (by omega) (by omega)
   have e : (n + cntN c (l.drop (i + 1))) = (n + cntN c (l.drop i)) := by rw [hdr, cntN_s cc]
   rw [e] at ih
   refine Ev.step (fun k => ?_) ih
   rw [postroomref10_Count.l0, if_pos (by omega), if_pos (by omega), rd_at l i hlt, if_neg cc, w64 (by omega) (by omega)]
   rfl
theorem cnt_ev (c : Int) (nm : ByteArray) (s : Int) (l : List Int) (hs : Sm s l) : Ev (fun k => postroomref10_Count.f k nm s l c) ((cntN c l : Nat) : Int) := by
 have h := cnt_l c nm s l hs l.length 0 0 (by omega) (by omega)
 rw [List.drop_zero, Nat.zero_add] at h
 exact h
theorem same_l (l : List Int) (hl : l.length < 1000000000000000000) : ∀ (d i : Nat), i + d = l.length → Ev (fun k => postroomref10_Same.l0 k l l (i : Int)) true
 | 0, i, hi => by
  refine Ev.stop fun k => ?_
  rw [postroomref10_Same.l0, if_neg (by omega)]
 | d + 1, i, hi => by
  refine Ev.step (fun k => ?_) (same_l l hl d (i + 1) (by omega))
  rw [postroomref10_Same.l0, if_pos (by omega), if_pos (by omega), if_pos (by omega), if_pos rfl, w64 (by omega) (by omega)]
  rfl
theorem same_ev (l : List Int) (hl : l.length < 1000000000000000000) : Ev (fun k => postroomref10_Same.f k l l) true := by
 have h := same_l l hl l.length 0 (by omega)
 refine ⟨h.choose, fun k hk => ?_⟩
 show (if (l.length : Int) = (l.length : Int) then postroomref10_Same.l0 k l l 0 else some false) = some true
 rw [if_pos rfl]
 exact h.choose_spec k hk
/-- The numbers that are done above the first that is pending. -/
def abvL (lo : Int) : Int → List Int → List Int
 | _, [] => []
 | x, b :: r => if b = 112 then abvL lo (x + 1) r else if x > lo then x :: abvL lo (x + 1) r else abvL lo (x + 1) r
theorem above_l (nm : ByteArray) (s : Int) (l : List Int) (hs : Sm s l) (hlen : l.length ≤ 1000000) : ∀ (d i : Nat) (acc : List Int), i + d = l.length → acc.length ≤ i → Ev (fun k => postroomref10_Above.l0 k acc (i : Int) nm s l) (acc ++ abvL (s + (lowN l : Int)) (s + (i : Int)) (l.drop i))
 | 0, i, acc, hi, ha => by
  refine Ev.stop fun k => ?_
  rw [postroomref10_Above.l0, if_neg (by omega), List.drop_eq_nil_of_le (by omega), abvL, List.append_nil]
 | d + 1, i, acc, hi, ha => by
  have h1 := hs.s0
  have h2 := hs.len
  have hlt : i < l.length := by omega
  have hdr : l.drop i = l[i] :: l.drop (i + 1) := List.drop_eq_getElem_cons hlt
  have e2 : s + ((i + 1 : Nat) : Int) = s + (i : Int) + 1 := by omega
  by_cases c : l[i] = 112
  ·have ih := above_l nm s l hs hlen d (i + 1) acc (by omega) (by omega)
   rw [hdr, abvL, if_pos c]
   rw [e2] at ih
   refine Ev.step (fun k => ?_) ih
   rw [postroomref10_Above.l0, if_pos (by omega), if_pos (by omega), rd_at l i hlt, if_pos c, w64 (by omega) (by omega)]
   rfl
  ·rw [hdr, abvL, if_neg c]
   have hl := low_ev nm s l hs
   obtain ⟨K, hK⟩ := hl
   by_cases c2 : s + (i : Int) > s + (lowN l : Int)
   ·obtain ⟨K', hK'⟩ := above_l nm s l hs hlen d (i + 1) (acc ++ [s + (i : Int)]) (by omega) (by rw [List.length_append, List.length_singleton]; omega)
    rw [if_pos c2]
    refine ⟨max K K' + 1, fun n hn => ?_⟩
    obtain ⟨m, rfl⟩ : ∃ m, n = m + 1 := ⟨n - 1, by omega⟩
    have e3 := hK' m (by omega)
    rw [e2, List.append_assoc] at e3
    show postroomref10_Above.l0 (m + 1) acc (i : Int) nm s l = _
    rw [postroomref10_Above.l0, if_pos (by omega), if_pos (by omega), rd_at l i hlt, if_neg c, w64 (by omega) (by omega), u64_id (x := (i : Int)) (by omega) (by omega), u64_id (x := s + (i : Int)) (by omega) (by omega), show postroomref10_Low.f m nm s l = some (s + (lowN l : Int)) from hK m (by omega)]
    show (if s + (i : Int) > s + (lowN l : Int) then (if acc.length < 17592186044416 then postroomref10_Above.l0 m (acc ++ [s + (i : Int)]) ((i : Int) + 1) nm s l else none) else postroomref10_Above.l0 m acc ((i : Int) + 1) nm s l) = _
    rw [if_pos c2, if_pos (by omega)]
    exact e3
   ·obtain ⟨K', hK'⟩ := above_l nm s l hs hlen d (i + 1) acc (by omega) (by omega)
    rw [if_neg c2]
    refine ⟨max K K' + 1, fun n hn => ?_⟩
    obtain ⟨m, rfl⟩ : ∃ m, n = m + 1 := ⟨n - 1, by omega⟩
    have e3 := hK' m (by omega)
    rw [e2] at e3
    show postroomref10_Above.l0 (m + 1) acc (i : Int) nm s l = _
    rw [postroomref10_Above.l0, if_pos (by omega), if_pos (by omega), rd_at l i hlt, if_neg c, w64 (by omega) (by omega), u64_id (x := (i : Int)) (by omega) (by omega), u64_id (x := s + (i : Int)) (by omega) (by omega), show postroomref10_Low.f m nm s l = some (s + (lowN l : Int)) from hK m (by omega)]
    show (if s + (i : Int) > s + (lowN l : Int) then (if acc.length < 17592186044416 then postroomref10_Above.l0 m (acc ++ [s + (i : Int)]) ((i : Int) + 1) nm s l else none) else postroomref10_Above.l0 m acc ((i : Int) + 1) nm s l) = _
    rw [if_neg c2]
    exact e3
theorem above_ev (nm : ByteArray) (s : Int) (l : List Int) (hs : Sm s l) (hlen : l.length ≤ 1000000) : Ev (fun k => postroomref10_Above.f k nm s l) (abvL (s + (lowN l : Int)) s l) := by
 have h := above_l nm s l hs hlen l.length 0 [] (by omega) (by simp)
 rw [List.drop_zero, List.nil_append] at h
 have e : s + ((0 : Nat) : Int) = s := by omega
 rw [e] at h
 exact h
theorem abvL_len (lo : Int) : ∀ (l : List Int) (x : Int), (abvL lo x l).length ≤ l.length
 | [], x => Nat.le_refl _
 | b :: r, x => by
  have h := abvL_len lo r (x + 1)
  unfold abvL
  split
  ·rw [List.length_cons]; omega
  ·split
   ·rw [List.length_cons, List.length_cons]; omega
   ·rw [List.length_cons]; omega
/-- The program's destination, of the document's. -/
def progD (x : RD) : D := ⟨x.f0, x.f1, x.f1 + (lowN x.f2 : Int), abvL (x.f1 + (lowN x.f2 : Int)) x.f1 x.f2, ((cntN 97 x.f2 : Nat) : Int), ((cntN 101 x.f2 : Nat) : Int), ((cntN 114 x.f2 : Nat) : Int)⟩
structure SmD (x : RD) : Prop where
 sm : Sm x.f1 x.f2
 len : x.f2.length ≤ 1000000
theorem asD_ev (x : RD) (h : SmD x) : ∃ K, ∀ k, K ≤ k → asD k (progD x) x := by
 obtain ⟨K1, h1⟩ := low_ev x.f0 x.f1 x.f2 h.sm
 obtain ⟨K2, h2⟩ := above_ev x.f0 x.f1 x.f2 h.sm h.len
 obtain ⟨K3, h3⟩ := same_ev (abvL (x.f1 + (lowN x.f2 : Int)) x.f1 x.f2) (by have := abvL_len (x.f1 + (lowN x.f2 : Int)) x.f2 x.f1; have := h.len; omega)
 obtain ⟨K4, h4⟩ := cnt_ev 97 x.f0 x.f1 x.f2 h.sm
 obtain ⟨K5, h5⟩ := cnt_ev 101 x.f0 x.f1 x.f2 h.sm
 obtain ⟨K6, h6⟩ := cnt_ev 114 x.f0 x.f1 x.f2 h.sm
 exact ⟨K1 + K2 + K3 + K4 + K5 + K6, fun k hk => ⟨rfl, rfl, h1 k (by omega), ⟨_, h2 k (by omega), h3 k (by omega)⟩, h4 k (by omega), h5 k (by omega), h6 k (by omega)⟩⟩
theorem asD_all : ∀ (r : List RD), (∀ x ∈ r, SmD x) → ∃ K, ∀ k, K ≤ k → ∀ x ∈ r, asD k (progD x) x
 | [], _ => ⟨0, fun _ _ x hx => by simp at hx⟩
 | y :: r, h => by
  obtain ⟨K1, h1⟩ := asD_ev y (h y List.mem_cons_self)
  obtain ⟨K2, h2⟩ := asD_all r (fun x hx => h x (List.mem_cons_of_mem _ hx))
  refine ⟨K1 + K2, fun k hk x hx => ?_⟩
  rcases List.mem_cons.1 hx with rfl | hx
  ·exact h1 k (by omega)
  ·exact h2 k (by omega) x hx
theorem asL_ev (r : List RD) (h : ∀ x ∈ r, SmD x) (hl : r.length ≤ 1000000) : ∃ K, ∀ k, K ≤ k → asL k (r.map progD) r := by
 obtain ⟨K, hK⟩ := asD_all r h
 refine ⟨K, fun k hk => ⟨List.length_map .., by rw [List.length_map]; exact hl, fun i h1 h2 => ?_⟩⟩
 rw [List.getElem_map]
 exact hK k hk _ (List.getElem_mem h2)
theorem lowN_add (l : List Int) : lowN (l ++ [112]) = lowN l := by
 induction l with
 | nil => rfl
 | cons b r ih =>
  by_cases c : b = 112
  ·rw [List.cons_append, lowN_p c, lowN_p c]
  ·rw [List.cons_append, lowN_s c, lowN_s c, ih]
theorem cntN_add {c : Int} (hc : (112 : Int) ≠ c) (l : List Int) : cntN c (l ++ [112]) = cntN c l := by
 unfold cntN
 rw [List.countP_append, List.countP_cons_of_neg (by simpa using hc), List.countP_nil, Nat.add_zero]
theorem abvL_add (lo : Int) : ∀ (l : List Int) (x : Int), abvL lo x (l ++ [112]) = abvL lo x l
 | [], x => rfl
 | b :: r, x => by rw [List.cons_append, abvL, abvL, abvL_add lo r (x + 1)]
/-- An entry more: the program's destination stays. -/
theorem progD_add (x : RD) : progD ⟨x.f0, x.f1, x.f2 ++ [112]⟩ = progD x := by
 unfold progD
 simp only [lowN_add, abvL_add, cntN_add (show (112 : Int) ≠ 97 by decide), cntN_add (show (112 : Int) ≠ 101 by decide), cntN_add (show (112 : Int) ≠ 114 by decide)]
theorem prog_radd (r : List RD) : (radd r).map progD = r.map progD := by
 unfold radd
 rw [List.map_map]
 exact List.map_congr_left fun x _ => progD_add x
theorem rdX (l : List RD) (i : Nat) (h : i < l.length) : rd_T84 l (i : Int) = l[i] := by
 unfold rd_T84; rw [Int.toNat_natCast, List.getD_eq_getElem?_getD, List.getElem?_eq_getElem h]; rfl
theorem copied_l (f n f' n' : Int) (l : List RD) (hl : l.length ≤ 1000000) (hx : ∀ x ∈ l, SmD x) : ∀ (d i : Nat), i + d = l.length → Ev (fun k => postroomref10_copied.l0 k (i : Int) f n l f' n' (l.take i)) (f', n', l)
 | 0, i, hi => by
  refine Ev.stop fun k => ?_
  rw [postroomref10_copied.l0, if_neg (by omega), List.take_of_length_le (by omega)]
 | d + 1, i, hi => by
  have hlt : i < l.length := by omega
  have h1 := (hx l[i] (List.getElem_mem hlt)).len
  refine Ev.step (fun k => ?_) (copied_l f n f' n' l hl hx d (i + 1) (by omega))
  rw [postroomref10_copied.l0, if_pos (by omega), if_pos (by omega), rdX l i hlt, w64 (by omega) (by omega)]
  show (if ([] : List Int).length + l[i].f2.length < 140737488355328 then (if (l.take i).length < 2932031007402 then postroomref10_copied.l0 k ((i : Int) + 1) f n l f' n' (l.take i ++ [⟨l[i].f0, l[i].f1, [] ++ l[i].f2⟩]) else none) else none) = _
  rw [if_pos (by rw [List.length_nil]; omega), if_pos (by rw [List.length_take]; omega), List.nil_append]
  have e : l.take i ++ [(⟨l[i].f0, l[i].f1, l[i].f2⟩ : RD)] = l.take (i + 1) := by rw [← List.take_append_getElem hlt]
  rw [e]
  rfl
theorem copied_ev (f n : Int) (l : List RD) (hl : l.length ≤ 1000000) (hx : ∀ x ∈ l, SmD x) : Ev (fun k => postroomref10_copied.f k f n l) (f, n, l) := by
 have h := copied_l f n f n l hl hx l.length 0 (by omega)
 exact h
theorem radd_ev (f n : Int) (l : List RD) (hl : l.length ≤ 1000000) (hx : ∀ x ∈ l, SmD x) : Ev (fun k => postroomref10_Add.f k f n l) (f, Go.IntKind.u64.wrap (n + 1), radd l) := by
 obtain ⟨K, hK⟩ := copied_ev f n l hl hx
 refine ⟨K, fun k hk => ?_⟩
 have h : postroomref10_copied.f k f n l = some (f, n, l) := hK k hk
 show postroomref10_Add.f k f n l = _
 unfold postroomref10_Add.f
 rw [h]
 exact if_pos ⟨hl, fun x hm => (hx x hm).len⟩
theorem add_law (f n : Int) (r : List RD) (hl : r.length ≤ 1000000) : ledger_Add.f f n (r.map progD) = some (f, Go.IntKind.u64.wrap (n + 1), r.map progD) := by
 unfold ledger_Add.f ledger_Dest_33.f
 rw [if_pos (by rw [List.length_map]; exact hl)]
 rfl
/-- The place of a name. -/
def pN (nm : ByteArray) : List RD → Nat
 | [] => 0
 | x :: l => if x.f0.toList = nm.toList then 0 else pN nm l + 1
theorem plN_prog (nm : ByteArray) : ∀ r : List RD, plN (r.map progD) nm = pN nm r
 | [] => rfl
 | x :: l => by
  rw [List.map_cons, plN, pN, plN_prog nm l]
  rfl
def pI (nm : ByteArray) (r : List RD) : Int := if pN nm r < r.length then (pN nm r : Int) else -1
theorem place_l (nm : ByteArray) (f n : Int) (l : List RD) (hl : l.length ≤ 1000000) : ∀ (d i : Nat), i + d = l.length → Ev (fun k => postroomref10_place.l0 k nm (i : Int) f n l) (if pN nm (l.drop i) < (l.drop i).length then ((i + pN nm (l.drop i) : Nat) : Int) else -1)
 | 0, i, hi => by
  refine Ev.stop fun k => ?_
  rw [postroomref10_place.l0, if_neg (by omega), List.drop_eq_nil_of_le (by omega), if_neg (by simp)]
 | d + 1, i, hi => by
  have hlt : i < l.length := by omega
  have hdr : l.drop i = l[i] :: l.drop (i + 1) := List.drop_eq_getElem_cons hlt
  by_cases c : l[i].f0.toList = nm.toList
  ·have e : pN nm (l.drop i) = 0 := by rw [hdr, pN, if_pos c]
   rw [e, if_pos (by rw [List.length_drop]; omega)]
   refine Ev.stop fun k => ?_
   rw [postroomref10_place.l0, if_pos (by omega), if_pos (by omega), rdX l i hlt, if_pos c]
   rfl
  ·have ih := place_l nm f n l hl d (i + 1) (by omega)
   have e : pN nm (l.drop i) = pN nm (l.drop (i + 1)) + 1 := by rw [hdr, pN, if_neg c]
   have e2 : (if pN nm (l.drop i) < (l.drop i).length then ((i + pN nm (l.drop i) : Nat) : Int) else -1) = (if pN nm (l.drop (i + 1)) < (l.drop (i + 1)).length then ((i + 1 + pN nm (l.drop (i + 1)) : Nat) : Int) else -1) := by
    rw [e, List.length_drop, List.length_drop]
    by_cases h : pN nm (l.drop (i + 1)) < l.length - (i + 1)
    ·rw [if_pos h, if_pos (by omega)]; omega
    ·rw [if_neg h, if_neg (by omega)]
   rw [e2]
   refine Ev.step (fun k => ?_) ih
   rw [postroomref10_place.l0, if_pos (by omega), if_pos (by omega), rdX l i hlt, if_neg c, w64 (by omega) (by omega)]
   rfl
theorem place_ev (nm : ByteArray) (f n : Int) (l : List RD) (hl : l.length ≤ 1000000) : Ev (fun k => postroomref10_place.f k f n l nm) (pI nm l) := by
 have h := place_l nm f n l hl l.length 0 (by omega)
 rw [List.drop_zero, Nat.zero_add] at h
 exact h
theorem plI_prog (nm : ByteArray) (r : List RD) : plI (r.map progD) nm = pI nm r := by
 unfold plI pI
 rw [plN_prog, List.length_map]
theorem leave_law (f n : Int) (r : List RD) (hl : r.length ≤ 1000000) (nm : ByteArray) : ledger_Leave.f f n (r.map progD) nm = if pN nm r < r.length then some (f, n, (r.eraseIdx (pN nm r)).map progD, 0) else some (0, 0, [], 5) := by
 unfold ledger_Leave.f
 rw [plN_prog, List.length_map, if_pos hl, List.eraseIdx_eq_take_drop_succ, List.eraseIdx_eq_take_drop_succ, List.map_append, List.map_take, List.map_drop]
theorem refLeave_ev (f n : Int) (r : List RD) (hl : r.length ≤ 1000000) (hx : ∀ x ∈ r, SmD x) (nm : ByteArray) : Ev (fun k => postroomref10_Leave.f k f n r nm) (if pN nm r < r.length then (f, n, r.eraseIdx (pN nm r), 0) else (0, 0, [], 5)) := by
 obtain ⟨K, hK⟩ := place_ev nm f n r hl
 obtain ⟨K', hK'⟩ := copied_ev f n r hl hx
 refine ⟨K + K', fun k hk => ?_⟩
 have h1 : postroomref10_place.f k f n r nm = some (pI nm r) := hK k (by omega)
 have h2 : postroomref10_copied.f k f n r = some (f, n, r) := hK' k (by omega)
 show postroomref10_Leave.f k f n r nm = _
 unfold postroomref10_Leave.f
 rw [h1, h2]
 by_cases c : pN nm r < r.length
 ·have e : pI nm r = (pN nm r : Int) := if_pos c
  rw [if_pos c, e]
  have e2 : wrap64 ((pN nm r : Int) + 1) = (pN nm r : Int) + 1 := w64 (by omega) (by omega)
  have e3 : ((pN nm r : Int) + 1).toNat = pN nm r + 1 := by omega
  simp only [Option.bind_some, e2, e3, Int.toNat_natCast, List.nil_append, List.length_nil, Nat.zero_add, List.length_take, List.length_drop]
  rw [if_neg (by omega), if_pos (by omega), if_pos (by omega), if_pos (by omega), if_pos (by omega), if_pos (by omega), if_pos (by omega), List.eraseIdx_eq_take_drop_succ]
 ·have e : pI nm r = -1 := if_neg c
  rw [if_neg c, e]
  rfl
def okNames : List ByteArray := [⟨#[97]⟩, ⟨#[98]⟩, ⟨#[99]⟩, ⟨#[100]⟩, ⟨#[101]⟩, ⟨#[122, 111, 110, 101]⟩]
set_option maxRecDepth 1000000 in
theorem name_ok (nm : ByteArray) (h : nm ∈ okNames) : label_Name.f nm = some true ∧ ∀ k, 40 ≤ k → postroomref3_Name.f k nm = some true := by
 have key : label_Name.f nm = some true ∧ postroomref3_Name.f 40 nm = some true := by
  simp only [okNames, List.mem_cons, List.not_mem_nil, or_false] at h
  rcases h with rfl | rfl | rfl | rfl | rfl | rfl
  all_goals exact ⟨by kernel_rfl, by kernel_rfl⟩
 exact ⟨key.1, fun k hk => at_rounds (g := fun k => postroomref3_Name.f k nm) (fun k => postroomref3_Name.mono nm k) hk key.2⟩
set_option maxRecDepth 1000000 in
theorem name_bad : label_Name.f ⟨#[49]⟩ = some false ∧ ∀ k, 40 ≤ k → postroomref3_Name.f k ⟨#[49]⟩ = some false :=
 ⟨by kernel_rfl, fun k hk => at_rounds (g := fun k => postroomref3_Name.f k ⟨#[49]⟩) (fun k => postroomref3_Name.mono ⟨#[49]⟩ k) hk (by kernel_rfl)⟩
theorem progD_new (nm : ByteArray) (n : Int) : progD ⟨nm, n, []⟩ = ⟨nm, n, n, [], 0, 0, 0⟩ := by
 unfold progD lowN cntN
 simp [abvL]
theorem join_law (f n : Int) (r : List RD) (hl : r.length ≤ 1000000) (nm : ByteArray) (hn : label_Name.f nm = some true) : ledger_Join.f f n (r.map progD) nm = if pN nm r < r.length then some (0, 0, [], 4) else if 4 ≤ r.length then some (0, 0, [], 6) else some (f, n, (r ++ [(⟨nm, n, []⟩ : RD)]).map progD, 0) := by
 unfold ledger_Join.f
 rw [hn]
 have hp : ledger_place.f (r.map progD) nm = some (pI nm r) := by rw [← plI_prog]; rfl
 rw [Option.bind_some, if_pos rfl, hp, Option.bind_some]
 by_cases c : pN nm r < r.length
 ·rw [if_pos c, show pI nm r = (pN nm r : Int) from if_pos c, if_pos (by omega)]
 ·rw [if_neg c, show pI nm r = -1 from if_neg c, if_neg (by omega), List.length_map]
  by_cases c2 : 4 ≤ r.length
  ·rw [if_pos c2, if_pos (by omega)]
  ·rw [if_neg c2, if_neg (by omega)]
   unfold ledger_Dest_33.f
   rw [if_pos (by rw [List.length_map]; exact hl), Option.bind_some, Option.bind_some, if_pos (by rw [List.length_map, List.length_singleton]; omega), List.map_append, List.map_singleton, progD_new]
theorem refJoin_ev (f n : Int) (r : List RD) (hl : r.length ≤ 1000000) (hx : ∀ x ∈ r, SmD x) (nm : ByteArray) (hn : ∀ k, 40 ≤ k → postroomref3_Name.f k nm = some true) : Ev (fun k => postroomref10_Join.f k f n r nm) (if pN nm r < r.length then (0, 0, [], 4) else if 4 ≤ r.length then (0, 0, [], 6) else (f, n, r ++ [(⟨nm, n, []⟩ : RD)], 0)) := by
 obtain ⟨K, hK⟩ := place_ev nm f n r hl
 obtain ⟨K', hK'⟩ := copied_ev f n r hl hx
 refine ⟨K + K' + 40, fun k hk => ?_⟩
 have h1 : postroomref10_place.f k f n r nm = some (pI nm r) := hK k (by omega)
 have h2 : postroomref10_copied.f k f n r = some (f, n, r) := hK' k (by omega)
 show postroomref10_Join.f k f n r nm = _
 unfold postroomref10_Join.f
 rw [hn k (by omega), Option.bind_some, if_pos rfl, h1, Option.bind_some]
 by_cases c : pN nm r < r.length
 ·rw [if_pos c, show pI nm r = (pN nm r : Int) from if_pos c, if_pos (by omega)]
 ·rw [if_neg c, show pI nm r = -1 from if_neg c, if_neg (by omega)]
  by_cases c2 : 4 ≤ r.length
  ·rw [if_pos c2, if_pos (by omega)]
  ·rw [if_neg c2, if_neg (by omega), h2, Option.bind_some, if_pos (by show r.length < _; omega)]
theorem join_bad (f n : Int) (r : List RD) (nm : ByteArray) (hn : label_Name.f nm = some false) : ledger_Join.f f n (r.map progD) nm = some (0, 0, [], 3) := by
 unfold ledger_Join.f
 rw [hn]
 rfl
theorem refJoin_bad (f n : Int) (r : List RD) (nm : ByteArray) (hn : ∀ k, 40 ≤ k → postroomref3_Name.f k nm = some false) : Ev (fun k => postroomref10_Join.f k f n r nm) (0, 0, [], 3) := by
 refine ⟨40, fun k hk => ?_⟩
 show postroomref10_Join.f k f n r nm = _
 unfold postroomref10_Join.f
 rw [hn k hk]
 rfl
theorem mem_abvL (lo : Int) : ∀ (l : List Int) (x y : Int), y ∈ abvL lo x l ↔ ∃ i : Nat, ∃ b, l[i]? = some b ∧ b ≠ 112 ∧ y = x + (i : Int) ∧ y > lo
 | [], x, y => by simp [abvL]
 | c :: r, x, y => by
  have ih := mem_abvL lo r (x + 1) y
  have shift : (∃ i : Nat, ∃ b, r[i]? = some b ∧ b ≠ 112 ∧ y = x + 1 + (i : Int) ∧ y > lo) → ∃ i : Nat, ∃ b, (c :: r)[i]? = some b ∧ b ≠ 112 ∧ y = x + (i : Int) ∧ y > lo := by
   rintro ⟨i, b, h1, h2, h3, h4⟩
   exact ⟨i + 1, b, by rw [List.getElem?_cons_succ]; exact h1, h2, by omega, h4⟩
  have back : ∀ i : Nat, ∀ b, (c :: r)[i + 1]? = some b → b ≠ 112 → y = x + ((i + 1 : Nat) : Int) → y > lo → y ∈ abvL lo (x + 1) r := by
   intro i b h1 h2 h3 h4
   rw [List.getElem?_cons_succ] at h1
   exact ih.2 ⟨i, b, h1, h2, by omega, h4⟩
  unfold abvL
  by_cases hc : c = 112
  ·rw [if_pos hc]
   refine ⟨fun h => shift (ih.1 h), ?_⟩
   rintro ⟨i, b, h1, h2, h3, h4⟩
   cases i with
   | zero => simp at h1; omega
   | succ i => exact back i b h1 h2 h3 h4
  ·rw [if_neg hc]
   by_cases hx : x > lo
   ·rw [if_pos hx, List.mem_cons]
    constructor
    ·rintro (rfl | h)
     ·exact ⟨0, c, rfl, hc, by simp, hx⟩
     ·exact shift (ih.1 h)
    ·rintro ⟨i, b, h1, h2, h3, h4⟩
     cases i with
     | zero => left; simpa using h3
     | succ i => right; exact back i b h1 h2 h3 h4
   ·rw [if_neg hx]
    refine ⟨fun h => shift (ih.1 h), ?_⟩
    rintro ⟨i, b, h1, h2, h3, h4⟩
    cases i with
    | zero => simp at h3; omega
    | succ i => exact back i b h1 h2 h3 h4
theorem abvL_sorted (lo : Int) : ∀ (l : List Int) (x : Int), (abvL lo x l).Pairwise (· < ·)
 | [], x => List.Pairwise.nil
 | c :: r, x => by
  have ih := abvL_sorted lo r (x + 1)
  unfold abvL
  split
  ·exact ih
  ·split
   ·refine List.Pairwise.cons (fun y hy => ?_) ih
    obtain ⟨i, b, _, _, h, _⟩ := (mem_abvL lo r (x + 1) y).1 hy
    omega
   ·exact ih
theorem low_before : ∀ (l : List Int) (i : Nat), i < lowN l → l[i]? ≠ some 112
 | [], i, h => by simp [lowN] at h
 | c :: r, i, h => by
  by_cases hc : c = 112
  ·rw [lowN_p hc] at h; omega
  ·rw [lowN_s hc] at h
   cases i with
   | zero => simpa using hc
   | succ i => rw [List.getElem?_cons_succ]; exact low_before r i (by omega)
theorem low_at : ∀ (l : List Int), lowN l < l.length → l[lowN l]? = some 112
 | [], h => by simp at h
 | c :: r, h => by
  by_cases hc : c = 112
  ·rw [lowN_p hc, hc]; rfl
  ·rw [lowN_s hc] at h ⊢
   rw [List.getElem?_cons_succ]
   exact low_at r (by simpa using h)
/-- Whether an entry is pending. -/
def isP (x : RD) (seq : Int) : Prop := ∃ i : Nat, x.f2[i]? = some 112 ∧ seq = x.f1 + (i : Int)
open Classical in
theorem waits_ev (x : RD) (hx : SmD x) (seq n : Int) (hn : n = x.f1 + (x.f2.length : Int)) : Ev (fun k => ledger_Dest_waits.f k (progD x).f0 (progD x).f1 (progD x).f2 (progD x).f3 (progD x).f4 (progD x).f5 (progD x).f6 seq n) (decide (isP x seq)) := by
 have hbs := bs_f (progD x).f3 seq (abvL_sorted _ _ _) (by have h1 := abvL_len (x.f1 + (lowN x.f2 : Int)) x.f2 x.f1; have h2 := hx.len; show (abvL (x.f1 + (lowN x.f2 : Int)) x.f1 x.f2).length ≤ _; omega)
 obtain ⟨K, hK⟩ := hbs
 refine ⟨K, fun k hk => ?_⟩
 have hb : slices_BinarySearch_uint64_uint64.f k (progD x).f3 seq = some ((posN (progD x).f3 seq : Int), decide (seq ∈ (progD x).f3)) := hK k hk
 show ledger_Dest_waits.f k (progD x).f0 (progD x).f1 (progD x).f2 (progD x).f3 (progD x).f4 (progD x).f5 (progD x).f6 seq n = _
 unfold ledger_Dest_waits.f
 by_cases c1 : seq < (progD x).f2
 ·rw [if_pos c1]
  have : ¬ isP x seq := by
   rintro ⟨i, h1, h2⟩
   have c1' : seq < x.f1 + (lowN x.f2 : Int) := c1
   exact low_before x.f2 i (by omega) h1
  rw [decide_eq_false this]
 ·rw [if_neg c1]
  by_cases c2 : seq ≥ n
  ·rw [if_pos c2]
   have : ¬ isP x seq := by
    rintro ⟨i, h1, h2⟩
    have := (List.getElem?_eq_some_iff.1 h1).1
    omega
   rw [decide_eq_false this]
  ·rw [if_neg c2, hb]
   have c1' : ¬ seq < x.f1 + (lowN x.f2 : Int) := c1
   have hm : seq ∈ (progD x).f3 ↔ ¬ isP x seq := by
    refine (mem_abvL (x.f1 + (lowN x.f2 : Int)) x.f2 x.f1 seq).trans ⟨?_, ?_⟩
    ·rintro ⟨i, b, h1, h2, h3, h4⟩ ⟨j, g1, g2⟩
     have : i = j := by omega
     subst this
     rw [h1] at g1
     exact h2 (Option.some.inj g1)
    ·intro hp
     obtain ⟨i, hi⟩ : ∃ i : Nat, seq = x.f1 + (i : Int) := ⟨(seq - x.f1).toNat, by omega⟩
     have hlt : i < x.f2.length := by omega
     have hg := List.getElem?_eq_getElem hlt
     have hb2 : x.f2[i] ≠ 112 := fun e => hp ⟨i, by rw [hg, e], hi⟩
     refine ⟨i, x.f2[i], hg, hb2, hi, ?_⟩
     rcases Nat.lt_or_ge (lowN x.f2) i with h | h
     ·omega
     ·have e : lowN x.f2 = i := by omega
      have := low_at x.f2 (by omega)
      rw [e, hg] at this
      exact absurd (Option.some.inj this) hb2
   show some (!decide (seq ∈ (progD x).f3)) = some (decide (isP x seq))
   by_cases c3 : isP x seq
   ·rw [decide_eq_true c3, decide_eq_false (fun h => hm.1 h c3)]; rfl
   ·rw [decide_eq_false c3, decide_eq_true (hm.2 c3)]; rfl
open Classical in
theorem refWaits_ev (f n : Int) (r : List RD) (hl : r.length ≤ 1000000) (nm : ByteArray) (seq : Int) (h0 : 0 ≤ seq) (h1 : seq < 1000000000000000000) (hx : ∀ x ∈ r, SmD x ∧ n = x.f1 + (x.f2.length : Int)) :
  Ev (fun k => postroomref10_Waits.f k f n r nm seq) (if h : pN nm r < r.length then decide (isP r[pN nm r] seq) else false) := by
 obtain ⟨K, hK⟩ := place_ev nm f n r hl
 refine ⟨K, fun k hk => ?_⟩
 have hp : postroomref10_place.f k f n r nm = some (pI nm r) := hK k hk
 show postroomref10_Waits.f k f n r nm seq = _
 unfold postroomref10_Waits.f
 rw [hp]
 by_cases c : pN nm r < r.length
 ·have e : pI nm r = (pN nm r : Int) := if_pos c
  obtain ⟨hs, hn⟩ := hx r[pN nm r] (List.getElem_mem c)
  have hs1 := hs.sm.s0
  have hs2 := hs.sm.len
  rw [dif_pos c, e, Option.bind_some, if_pos (by omega), if_pos (by omega), if_pos (by omega), rdX r _ c]
  generalize r[pN nm r] = x at hs hn hs1 hs2 ⊢
  by_cases c1 : seq ≥ x.f1
  ·rw [if_pos c1]
   by_cases c2 : seq < n
   ·obtain ⟨i, hi⟩ : ∃ i : Nat, seq - x.f1 = (i : Int) := ⟨(seq - x.f1).toNat, by omega⟩
    have hlt : i < x.f2.length := by omega
    rw [if_pos c2, u64_id (by omega) (by omega), if_pos (by omega), if_pos (by omega), hi, rd_at x.f2 i hlt]
    congr 1
    have hiff : isP x seq ↔ x.f2[i] = 112 := by
     constructor
     ·rintro ⟨j, g1, g2⟩
      have : j = i := by omega
      subst this
      rw [List.getElem?_eq_getElem hlt] at g1
      exact Option.some.inj g1
     ·intro g
      exact ⟨i, by rw [List.getElem?_eq_getElem hlt, g], by omega⟩
    by_cases g : x.f2[i] = 112
    ·rw [decide_eq_true (hiff.2 g)]; simp [g]
    ·rw [decide_eq_false (fun h => g (hiff.1 h))]; simp [g]
   ·rw [if_neg c2, decide_eq_false]
    rintro ⟨j, g1, g2⟩
    have := (List.getElem?_eq_some_iff.1 g1).1
    omega
  ·rw [if_neg c1, decide_eq_false]
   rintro ⟨j, g1, g2⟩
   omega
 ·have e : pI nm r = -1 := if_neg c
  rw [dif_neg c, e]
  rfl
/-- A destination, one of whose entries is done. -/
def setD (x : RD) (i : Nat) (c : Int) : RD := ⟨x.f0, x.f1, x.f2.set i c⟩
theorem refDone_yes (f n : Int) (r : List RD) (hl : r.length ≤ 1000000) (hx : ∀ x ∈ r, SmD x ∧ n = x.f1 + (x.f2.length : Int)) (nm : ByteArray) (seq c : Int) (hc : c = 97 ∨ c = 114) (hp : pN nm r < r.length) (i : Nat) (hi : r[pN nm r].f2[i]? = some 112) (hq : seq = r[pN nm r].f1 + (i : Int)) :
  Ev (fun k => postroomref10_Done.f k f n r nm seq c) (f, n, r.set (pN nm r) (setD r[pN nm r] i c), 0) := by
 classical
 have hlt := (List.getElem?_eq_some_iff.1 hi).1
 obtain ⟨hs, hn⟩ := hx r[pN nm r] (List.getElem_mem hp)
 have hs1 := hs.sm.s0
 have hs2 := hs.sm.len
 obtain ⟨K, hK⟩ := place_ev nm f n r hl
 obtain ⟨K', hK'⟩ := copied_ev f n r hl (fun x h => (hx x h).1)
 obtain ⟨K2, hK2⟩ := refWaits_ev f n r hl nm seq (by omega) (by omega) hx
 refine ⟨K + K' + K2 + 1, fun k hk => ?_⟩
 obtain ⟨m, rfl⟩ : ∃ m, k = m + 1 := ⟨k - 1, by omega⟩
 have h1 : postroomref10_place.f (m + 1) f n r nm = some (pI nm r) := hK _ (by omega)
 have h2 : postroomref10_copied.f m f n r = some (f, n, r) := hK' _ (by omega)
 have h3 : postroomref10_Waits.f m f n r nm seq = some true := by
  have := hK2 m (by omega)
  have hP : isP r[pN nm r] seq := ⟨i, hi, hq⟩
  rw [dif_pos hp, decide_eq_true hP] at this
  exact this
 have e : pI nm r = (pN nm r : Int) := if_pos hp
 have e5 : seq - r[pN nm r].f1 = (i : Int) := by omega
 have key : postroomref10_Done.j0 (m + 1) nm seq c (pN nm r : Int) false f n r = some (f, n, r.set (pN nm r) (setD r[pN nm r] i c), 0) := by
  rw [postroomref10_Done.j0, if_neg (by decide), h3, Option.bind_some, if_pos rfl, h2, Option.bind_some, if_pos (by omega), if_pos (by show (pN nm r : Int) < (r.length : Int); omega)]
  simp only [rdX r _ hp, e5]
  rw [u64_id (x := (i : Int)) (by omega) (by omega), if_pos (by omega), if_pos (by omega), Int.toNat_natCast, Int.toNat_natCast]
  rfl
 show postroomref10_Done.f (m + 1) f n r nm seq c = _
 unfold postroomref10_Done.f
 rw [h1, Option.bind_some, e, if_neg (by omega)]
 rcases hc with rfl | rfl
 ·rw [if_pos rfl]; exact key
 ·rw [if_neg (by decide)]; exact key
end Go.Proofs.YthhmpjapnkilcaaDoor.Ldg
