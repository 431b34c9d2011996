/- The plain law of chapter 10, third part: each act, and any acts. Conditions: those that each theorem names. -/
import Derived.Test.YthhmpjapnkilcaaDoorLdgDone
import Derived.Test.YthhmpjapnkilcaaDoorGMono
import Derived.Test.YthhmpjapnkilcaaDoorXLdgP1
import Derived.Test.YthhmpjapnkilcaaDoorXLdgP2
import Derived.Test.YthhmpjapnkilcaaDoorXLdgP3
import Derived.Test.YthhmpjapnkilcaaDoorXLdgP4
import Derived.Test.YthhmpjapnkilcaaDoorXLdgP5
namespace Go.Proofs.YthhmpjapnkilcaaDoor.Ldg
open Go.Proofs.YthhmpjapnkilcaaDoorW.PrintWords hiding encs
open Go.RowKit Go.Proofs.YthhmpjapnkilcaaDoorW.PrintLast Go.Proofs.YthhmpjapnkilcaaDoorW.PrintMore Go.Proofs.YthhmpjapnkilcaaDoor.Num Go.Proofs.YthhmpjapnkilcaaDoor.XLdg
set_option linter.unusedVariables false
set_option linter.unusedSimpArgs false
theorem w64' {x : Int} (h0 : -9223372036854775808 ≤ x) (h1 : x < 9223372036854775808) : wrap64 x = x := by unfold wrap64; omega
theorem u64_range (x : Int) : 0 ≤ Go.IntKind.u64.wrap x ∧ Go.IntKind.u64.wrap x < 18446744073709551616 := by rw [u64_wrap]; omega
theorem rd_mid (A B : List RD) (y : RD) : rd_T84 (A ++ y :: B) (A.length : Int) = y := by
 rw [rdX _ _ (by rw [List.length_append, List.length_cons]; omega)]
 simp
theorem rd_in (p q : List Int) (b : Int) : rd (p ++ b :: q) (p.length : Int) = b := by
 rw [rd_at _ _ (by rw [List.length_append, List.length_cons]; omega)]
 simp
theorem refEvict_l1 (t n : Int) (A B : List RD) (nm : ByteArray) (s : Int) (hs : 0 ≤ s) (R : Int × Int × List RD × Int) (hA : A.length ≤ 1000) : ∀ (q p : List Int), s + ((p.length + q.length : Nat) : Int) ≤ 1000 → Ev (fun k => postroomref10_Evict.l0 k t ((A.length : Int) + 1) t n (A ++ ⟨nm, s, p ++ evS t (s + (p.length : Int)) q⟩ :: B)) R → Ev (fun k => postroomref10_Evict.l1 k t (A.length : Int) (p.length : Int) t n (A ++ ⟨nm, s, p ++ q⟩ :: B)) R
 | [], p, hq, h => by
  refine Ev.step (fun k => ?_) h
  rw [postroomref10_Evict.l1, if_pos (by omega), if_pos (by rw [List.length_append, List.length_cons]; omega), rd_mid, List.append_nil, if_neg (by dsimp only; omega), w64 (by omega) (by omega)]
  simp only [evS, List.append_nil]
 | b :: q, p, hq, h => by
  rw [List.length_cons] at hq
  have ih := refEvict_l1 t n A B nm s hs R hA q (p ++ [if s + (p.length : Int) < t ∧ b = 112 then 101 else b]) (by rw [List.length_append, List.length_singleton]; omega) (by
   rw [List.length_append, List.length_singleton, List.append_assoc]
   have e : s + ((p.length + 1 : Nat) : Int) = s + (p.length : Int) + 1 := by omega
   rw [e]
   exact h)
  rw [List.append_assoc, List.length_append, List.length_singleton] at ih
  refine Ev.step (fun k => ?_) ih
  have e : wrap64 ((p.length : Int) + 1) = ((p.length + 1 : Nat) : Int) := by rw [w64 (by omega) (by omega)]; omega
  rw [postroomref10_Evict.l1, if_pos (by omega), if_pos (by rw [List.length_append, List.length_cons]; omega), rd_mid]
  simp only [rd_in]
  rw [if_pos (by rw [List.length_append, List.length_cons]; omega), u64_id (x := (p.length : Int)) (by omega) (by omega), u64_id (x := s + (p.length : Int)) (by omega) (by omega), e]
  by_cases c1 : s + (p.length : Int) < t
  ·rw [if_pos c1, if_pos (by omega)]
   by_cases c2 : b = 112
   ·rw [if_pos c2, if_pos ⟨c1, c2⟩, Int.toNat_natCast, Int.toNat_natCast, List.set_append_right _ _ (Nat.le_refl _), Nat.sub_self, List.set_cons_zero, List.set_append_right _ _ (Nat.le_refl _), Nat.sub_self, List.set_cons_zero]
    rfl
   ·rw [if_neg c2, if_neg (fun g => c2 g.2)]
    rfl
  ·rw [if_neg c1, if_neg (fun g => c1 g.1)]
   rfl
theorem refEvict_l0 (t n : Int) : ∀ (B A : List RD), A.length + B.length ≤ 1000 → (∀ x ∈ B, 0 ≤ x.f1 ∧ x.f1 + (x.f2.length : Int) ≤ 1000) → Ev (fun k => postroomref10_Evict.l0 k t (A.length : Int) t n (A ++ B)) (t, n, A ++ B.map (evR t), 0)
 | [], A, hA, hB => by
  refine Ev.stop fun k => ?_
  rw [postroomref10_Evict.l0, List.append_nil, if_neg (by omega), List.map_nil, List.append_nil]
 | x :: B, A, hA, hB => by
  rw [List.length_cons] at hA
  obtain ⟨h1, h2⟩ := hB x List.mem_cons_self
  have ih := refEvict_l0 t n B (A ++ [evR t x]) (by rw [List.length_append, List.length_singleton]; omega) (fun y hy => hB y (List.mem_cons_of_mem _ hy))
  rw [List.length_append, List.length_singleton, List.append_assoc, List.append_assoc] at ih
  have e : ((A.length + 1 : Nat) : Int) = (A.length : Int) + 1 := by omega
  rw [e] at ih
  have hl := refEvict_l1 t n A B x.f0 x.f1 h1 (t, n, A ++ evR t x :: B.map (evR t), 0) (by omega) x.f2 [] (by rw [List.length_nil]; omega) (by
   rw [List.length_nil, List.nil_append]
   have e2 : x.f1 + ((0 : Nat) : Int) = x.f1 := by omega
   rw [e2]
   exact ih)
  refine Ev.step (fun k => ?_) hl
  rw [postroomref10_Evict.l0, if_pos (by rw [List.length_append, List.length_cons]; omega)]
  rfl
theorem refEvict_ev {f n : Int} {r : List RD} (h : Inv f n r) (t : Int) : Ev (fun k => postroomref10_Evict.f k f n r t) (if f ≤ t ∧ t ≤ n then (t, n, r.map (evR t), 0) else (0, 0, [], 1)) := by
 have h0 := h.f1
 by_cases c : f ≤ t ∧ t ≤ n
 ·rw [if_pos c]
  obtain ⟨K, hK⟩ := copied_ev f n r h.big h.sm
  obtain ⟨K', hK'⟩ := refEvict_l0 t n r [] (by have := h.few; rw [List.length_nil]; omega) (fun x hx => by
   have h1 := h.since x hx
   have h2 := h.next x hx
   have h3 := h.n1
   omega)
  refine ⟨K + K' + 1, fun k hk => ?_⟩
  obtain ⟨m, rfl⟩ : ∃ m, k = m + 1 := ⟨k - 1, by omega⟩
  show postroomref10_Evict.f (m + 1) f n r t = _
  unfold postroomref10_Evict.f
  have e : (decide (t > n)) = false := decide_eq_false (by omega)
  rw [if_neg (by omega), postroomref10_Evict.j0, e, if_neg (by decide), show postroomref10_copied.f m f n r = some (f, n, r) from hK m (by omega)]
  exact hK' m (by omega)
 ·rw [if_neg c]
  refine Ev.stop fun k => ?_
  unfold postroomref10_Evict.f
  by_cases c2 : t < f
  ·rw [if_pos c2, postroomref10_Evict.j0, if_pos rfl]
  ·have e : (decide (t > n)) = true := decide_eq_true (by omega)
   rw [if_neg c2, postroomref10_Evict.j0, e, if_pos rfl]
theorem refDone_none (f n : Int) (r : List RD) (hl : r.length ≤ 1000000) (nm : ByteArray) (seq c : Int) (hp : ¬ pN nm r < r.length) : Ev (fun k => postroomref10_Done.f k f n r nm seq c) (0, 0, [], 5) := by
 obtain ⟨K, hK⟩ := place_ev nm f n r hl
 refine ⟨K, fun k hk => ?_⟩
 have h1 : postroomref10_place.f k f n r nm = some (pI nm r) := hK _ (by omega)
 show postroomref10_Done.f k f n r nm seq c = _
 unfold postroomref10_Done.f
 rw [h1, Option.bind_some, show pI nm r = -1 from if_neg hp, if_pos (by omega)]
theorem refDone_arg (f n : Int) (r : List RD) (hl : r.length ≤ 1000000) (nm : ByteArray) (seq c : Int) (hp : pN nm r < r.length) (c1 : c ≠ 97) (c2 : c ≠ 114) : Ev (fun k => postroomref10_Done.f k f n r nm seq c) (0, 0, [], 1) := by
 obtain ⟨K, hK⟩ := place_ev nm f n r hl
 refine ⟨K + 1, fun k hk => ?_⟩
 obtain ⟨m, rfl⟩ : ∃ m, k = m + 1 := ⟨k - 1, by omega⟩
 have h1 : postroomref10_place.f (m + 1) f n r nm = some (pI nm r) := hK _ (by omega)
 show postroomref10_Done.f (m + 1) f n r nm seq c = _
 unfold postroomref10_Done.f
 have e : (c != 114) = true := by simpa using c2
 rw [h1, Option.bind_some, show pI nm r = (pN nm r : Int) from if_pos hp, if_neg (by omega), if_neg c1, postroomref10_Done.j0, e, if_pos rfl]
theorem refDone_state (f n : Int) (r : List RD) (hl : r.length ≤ 1000000) (nm : ByteArray) (seq c : Int) (hp : pN nm r < r.length) (hc : c = 97 ∨ c = 114) (hx : ∀ x ∈ r, SmD x ∧ n = x.f1 + (x.f2.length : Int)) (h0 : 0 ≤ seq) (hq : seq < 18446744073709551616) (hn : n ≤ 1000) (hw : ¬ isP r[pN nm r] seq) : Ev (fun k => postroomref10_Done.f k f n r nm seq c) (0, 0, [], 13) := by
 classical
 obtain ⟨K, hK⟩ := place_ev nm f n r hl
 have hW : ∃ K2, ∀ k, K2 ≤ k → postroomref10_Waits.f k f n r nm seq = some false := by
  by_cases hb : seq < 1000000000000000000
  ·obtain ⟨K2, hK2⟩ := refWaits_ev f n r hl nm seq h0 hb hx
   refine ⟨K2, fun k hk => ?_⟩
   have := hK2 k hk
   rw [dif_pos hp, decide_eq_false hw] at this
   exact this
  ·refine ⟨K, fun k hk => ?_⟩
   have h1 : postroomref10_place.f k f n r nm = some (pI nm r) := hK _ (by omega)
   have hs := (hx r[pN nm r] (List.getElem_mem hp))
   have hs1 := hs.1.sm.s0
   have hs2 := hs.2
   unfold postroomref10_Waits.f
   rw [h1, Option.bind_some, show pI nm r = (pN nm r : Int) from if_pos hp, if_pos (by omega), if_pos (by omega), if_pos (by omega), rdX r _ hp, if_pos (by omega), if_neg (by omega)]
 obtain ⟨K2, hK2⟩ := hW
 refine ⟨K + K2 + 1, fun k hk => ?_⟩
 obtain ⟨m, rfl⟩ : ∃ m, k = m + 1 := ⟨k - 1, by omega⟩
 have h1 : postroomref10_place.f (m + 1) f n r nm = some (pI nm r) := hK _ (by omega)
 have key : postroomref10_Done.j0 (m + 1) nm seq c (pN nm r : Int) false f n r = some (0, 0, [], 13) := by
  rw [postroomref10_Done.j0, if_neg (by decide), hK2 m (by omega), Option.bind_some, if_neg (by decide)]
 show postroomref10_Done.f (m + 1) f n r nm seq c = _
 unfold postroomref10_Done.f
 rw [h1, Option.bind_some, show pI nm r = (pN nm r : Int) from if_pos hp, if_neg (by omega)]
 rcases hc with rfl | rfl
 ·rw [if_pos rfl]; exact key
 ·rw [if_neg (by decide)]; exact key
/-- A destination that stands at its name's place. -/
theorem pN_none {nm : ByteArray} : ∀ {r : List RD}, ¬ pN nm r < r.length → ∀ x ∈ r, x.f0.toList ≠ nm.toList
 | [], _, x, hx => by simp at hx
 | y :: r, h, x, hx => by
  unfold pN at h
  by_cases c : y.f0.toList = nm.toList
  ·rw [if_pos c, List.length_cons] at h; omega
  ·rw [if_neg c, List.length_cons] at h
   rcases List.mem_cons.1 hx with rfl | hx
   ·exact c
   ·exact pN_none (by omega) x hx
theorem pN_at {nm : ByteArray} : ∀ {r : List RD} (h : pN nm r < r.length), r[pN nm r].f0.toList = nm.toList
 | [], h => by simp at h
 | y :: r, h => by
  by_cases c : y.f0.toList = nm.toList
  ·have e : pN nm (y :: r) = 0 := by unfold pN; rw [if_pos c]
   simp only [e, List.getElem_cons_zero]; exact c
  ·have e : pN nm (y :: r) = pN nm r + 1 := by rw [pN, if_neg c]
   simp only [e, List.getElem_cons_succ]
   exact pN_at (by rw [e, List.length_cons] at h; omega)
theorem pN_lt {nm : ByteArray} : ∀ {r : List RD} {x : RD}, x ∈ r → x.f0.toList = nm.toList → pN nm r < r.length
 | [], x, hx, _ => by simp at hx
 | y :: r, x, hx, e => by
  by_cases c : y.f0.toList = nm.toList
  ·rw [pN, if_pos c, List.length_cons]; omega
  ·rw [pN, if_neg c, List.length_cons]
   rcases List.mem_cons.1 hx with rfl | hx
   ·exact absurd e c
   ·have := pN_lt hx e; omega
/-- What an act makes of the document's ledger; none: it is refused. -/
noncomputable def doA (kk : Int) (nm : ByteArray) (seq kd : Int) (f n : Int) (r : List RD) : Option (Int × Int × List RD) :=
 open Classical in
 if kk < 4 then some (f, n + 1, radd r)
 else if kk = 4 then (if nm ∈ okNames ∧ ¬ pN nm r < r.length ∧ r.length < 4 then some (f, n, r ++ [⟨nm, n, []⟩]) else none)
 else if kk = 5 then (if pN nm r < r.length then some (f, n, r.eraseIdx (pN nm r)) else none)
 else if kk < 10 then (if h : pN nm r < r.length then (if (kd = 97 ∨ kd = 114) ∧ isP r[pN nm r] seq then some (f, n, r.set (pN nm r) (setD r[pN nm r] (seq - r[pN nm r].f1).toNat kd)) else none) else none)
 else if f ≤ seq ∧ seq ≤ n then some (seq, n, r.map (evR seq)) else none
theorem DI.add {f n : Int} {x : RD} (h : DI f n x) (hf : f ≤ n) : DI f (n + 1) ⟨x.f0, x.f1, x.f2 ++ [112]⟩ :=
 ⟨h.since, by have := h.next; show n + 1 = x.f1 + ((x.f2 ++ [112]).length : Int); rw [List.length_append, List.length_singleton]; omega, h.name, fun b hb => by
  rcases List.mem_append.1 hb with hb | hb
  ·exact h.stat b hb
  ·exact Or.inl (List.mem_singleton.1 hb), fun i hi => by
  have hn := h.next
  by_cases c : i < x.f2.length
  ·rw [List.getElem?_append_left c] at hi
   exact h.pend i hi
  ·show f ≤ x.f1 + (i : Int); omega⟩
theorem radd_names (r : List RD) : (radd r).map (fun x => x.f0.toList) = r.map (fun x => x.f0.toList) := by
 unfold radd; rw [List.map_map]; rfl
theorem ev_names (t : Int) (r : List RD) : (r.map (evR t)).map (fun x => x.f0.toList) = r.map (fun x => x.f0.toList) := by
 rw [List.map_map]; rfl
theorem set_names (r : List RD) (i : Nat) (h : i < r.length) (y : RD) (e : y.f0 = r[i].f0) : (r.set i y).map (fun x => x.f0.toList) = r.map (fun x => x.f0.toList) := by
 rw [List.map_set, e]
 apply List.ext_getElem?
 intro j
 rw [List.getElem?_set]
 split
 ·rename_i g; subst g
  rw [List.length_map, if_pos h, List.getElem?_map, List.getElem?_eq_getElem h]; rfl
 ·rfl
theorem DI.done {f n : Int} {x : RD} (h : DI f n x) (i : Nat) (c : Int) (hc : c = 97 ∨ c = 114) : DI f n (setD x i c) :=
 ⟨h.since, by have := h.next; show n = x.f1 + ((x.f2.set i c).length : Int); rw [List.length_set]; exact this, h.name, okS_set h.stat i hc, fun j hj => by
  have hj' : (x.f2.set i c)[j]? = some 112 := hj
  rw [List.getElem?_set] at hj'
  split at hj'
  ·split at hj'
   ·rcases hc with rfl | rfl <;> simp at hj'
   ·simp at hj'
  ·exact h.pend j hj'⟩
theorem DI.ev {f n t : Int} {x : RD} (h : DI f n x) : DI t n (evR t x) :=
 ⟨h.since, by have := h.next; show n = x.f1 + ((evS t x.f1 x.f2).length : Int); rw [evS_len]; exact this, h.name, evS_ok t _ _ h.stat, fun j hj => by
  have := (evS_pend t x.f2 x.f1 j).1 hj
  show t ≤ x.f1 + (j : Int); omega⟩
theorem doA_inv {f n : Int} {r : List RD} (h : Inv f n r) (hn : n < 1000) (kk : Int) (nm : ByteArray) (seq kd : Int) {f' n' : Int} {r' : List RD} (e : doA kk nm seq kd f n r = some (f', n', r')) : Inv f' n' r' ∧ n ≤ n' ∧ n' ≤ n + 1 ∧ f ≤ f' := by
 classical
 have h1 := h.f1
 have h2 := h.fn
 unfold doA at e
 by_cases c1 : kk < 4
 ·rw [if_pos c1] at e
  cases e
  refine ⟨⟨h.f1, by omega, by omega, by rw [radd_len]; exact h.few, fun x hx => ?_, by rw [radd_names]; exact h.apart⟩, by omega, by omega, by omega⟩
  obtain ⟨y, hy, rfl⟩ := List.mem_map.1 hx
  exact (h.all y hy).add h.fn
 ·rw [if_neg c1] at e
  by_cases c2 : kk = 4
  ·rw [if_pos c2] at e
   split at e
   ·rename_i g
    obtain ⟨g1, g2, g3⟩ := g
    cases e
    refine ⟨⟨h.f1, h.fn, h.n1, by rw [List.length_append, List.length_singleton]; omega, fun x hx => ?_, ?_⟩, by omega, by omega, by omega⟩
    ·rcases List.mem_append.1 hx with hx | hx
     ·exact h.all x hx
     ·rw [List.mem_singleton.1 hx]
      exact ⟨by show 1 ≤ n; omega, by simp, g1, fun b hb => by simp at hb, fun i hi => by simp at hi⟩
    ·rw [List.map_append, List.pairwise_append]
     refine ⟨h.apart, by simp, fun a ha b hb => ?_⟩
     obtain ⟨x, hx, rfl⟩ := List.mem_map.1 ha
     simp only [List.map_cons, List.map_nil, List.mem_singleton] at hb
     subst hb
     exact pN_none g2 x hx
   ·cases e
  ·rw [if_neg c2] at e
   by_cases c3 : kk = 5
   ·rw [if_pos c3] at e
    split at e
    ·cases e
     refine ⟨⟨h.f1, h.fn, h.n1, ?_, fun x hx => h.all x (List.mem_of_mem_eraseIdx hx), ?_⟩, by omega, by omega, by omega⟩
     ·have := h.few
      have := (List.eraseIdx_sublist r (pN nm r)).length_le
      omega
     ·exact h.apart.sublist ((List.eraseIdx_sublist r (pN nm r)).map _)
    ·cases e
   ·rw [if_neg c3] at e
    by_cases c4 : kk < 10
    ·rw [if_pos c4] at e
     split at e
     ·rename_i hp
      split at e
      ·rename_i g
       obtain ⟨g1, g2⟩ := g
       cases e
       refine ⟨⟨h.f1, h.fn, h.n1, by rw [List.length_set]; exact h.few, fun x hx => ?_, by rw [set_names r (pN nm r) hp (setD r[pN nm r] (seq - r[pN nm r].f1).toNat kd) rfl]; exact h.apart⟩, by omega, by omega, by omega⟩
       rcases List.mem_or_eq_of_mem_set hx with hx | rfl
       ·exact h.all x hx
       ·exact (h.all _ (List.getElem_mem hp)).done _ _ g1
      ·cases e
     ·cases e
    ·rw [if_neg c4] at e
     split at e
     ·rename_i g
      cases e
      refine ⟨⟨by omega, g.2, h.n1, by rw [List.length_map]; exact h.few, fun x hx => ?_, by rw [ev_names]; exact h.apart⟩, by omega, by omega, g.1⟩
      obtain ⟨y, hy, rfl⟩ := List.mem_map.1 hx
      exact (h.all y hy).ev
     ·cases e
theorem asL_inv {f n : Int} {r : List RD} (h : Inv f n r) : ∃ K, ∀ k, K ≤ k → asL k (r.map progD) r := asL_ev r h.sm h.big
theorem asL_nil (k : Nat) : asL k [] [] := ⟨rfl, by simp, fun i h => by simp at h⟩
/-- What the program tells of Done. -/
theorem done_law {f n : Int} {r : List RD} (h : Inv f n r) (nm : ByteArray) (seq c : Int) (hq : 0 ≤ seq) :
  open Classical in
  Ev (fun k => ledger_Done.f k f n (r.map progD) nm seq c) (if g : pN nm r < r.length then (if c = 97 ∨ c = 114 then (if isP r[pN nm r] seq then (f, n, (r.set (pN nm r) (setD r[pN nm r] (seq - r[pN nm r].f1).toNat c)).map progD, 0) else (0, 0, [], 13)) else (0, 0, [], 1)) else (0, 0, [], 5)) := by
 classical
 by_cases g : pN nm r < r.length
 ·rw [dif_pos g]
  have hmem := List.getElem_mem g
  have hrd : rd_T37 (r.map progD) (pN nm r : Int) = progD r[pN nm r] := by
   unfold rd_T37
   rw [Int.toNat_natCast, List.getD_eq_getElem?_getD, List.getElem?_map, List.getElem?_eq_getElem g]; rfl
  by_cases c1 : c = 97 ∨ c = 114
  ·rw [if_pos c1]
   obtain ⟨K, hK⟩ := waits_ev r[pN nm r] (h.sm _ hmem) seq n (h.next _ hmem)
   refine ⟨K, fun k hk => ?_⟩
   have hw : ledger_Dest_waits.f k (progD r[pN nm r]).f0 (progD r[pN nm r]).f1 (progD r[pN nm r]).f2 (progD r[pN nm r]).f3 (progD r[pN nm r]).f4 (progD r[pN nm r]).f5 (progD r[pN nm r]).f6 seq n = some (decide (isP r[pN nm r] seq)) := hK k hk
   show ledger_Done.f k f n (r.map progD) nm seq c = _
   unfold ledger_Done.f
   rw [plN_prog, List.length_map, if_pos g, if_pos c1, hrd, hw, Option.bind_some]
   by_cases c2 : isP r[pN nm r] seq
   ·rw [if_pos (decide_eq_true c2), if_pos c2, if_pos h.big]
    obtain ⟨i, hi, e⟩ := c2
    have hd := done_one h k r[pN nm r] hmem i c c1 hi seq e
    have ei : (seq - r[pN nm r].f1).toNat = i := by omega
    rw [ei, List.map_set]
    obtain ⟨q, hq1, hq2⟩ := Option.bind_eq_some_iff.1 hd
    rw [hq1, Option.bind_some, Option.some.inj hq2]
   ·rw [if_neg (by simpa using c2), if_neg c2]
  ·rw [if_neg c1]
   refine ⟨0, fun k hk => ?_⟩
   show ledger_Done.f k f n (r.map progD) nm seq c = _
   unfold ledger_Done.f
   rw [plN_prog, List.length_map, if_pos g, if_neg c1]
 ·rw [dif_neg g]
  refine ⟨0, fun k hk => ?_⟩
  show ledger_Done.f k f n (r.map progD) nm seq c = _
  unfold ledger_Done.f
  rw [plN_prog, List.length_map, if_neg g]
/-- What the document tells of Done. -/
theorem refDone_ev {f n : Int} {r : List RD} (h : Inv f n r) (nm : ByteArray) (seq c : Int) (hq : 0 ≤ seq) (hq2 : seq < 18446744073709551616) :
  open Classical in
  Ev (fun k => postroomref10_Done.f k f n r nm seq c) (if g : pN nm r < r.length then (if c = 97 ∨ c = 114 then (if isP r[pN nm r] seq then (f, n, r.set (pN nm r) (setD r[pN nm r] (seq - r[pN nm r].f1).toNat c), 0) else (0, 0, [], 13)) else (0, 0, [], 1)) else (0, 0, [], 5)) := by
 classical
 have hx : ∀ x ∈ r, SmD x ∧ n = x.f1 + (x.f2.length : Int) := fun x hx => ⟨h.sm x hx, h.next x hx⟩
 by_cases g : pN nm r < r.length
 ·rw [dif_pos g]
  by_cases c1 : c = 97 ∨ c = 114
  ·rw [if_pos c1]
   by_cases c2 : isP r[pN nm r] seq
   ·rw [if_pos c2]
    obtain ⟨i, hi, e⟩ := c2
    have ei : (seq - r[pN nm r].f1).toNat = i := by omega
    rw [ei]
    exact refDone_yes f n r h.big hx nm seq c c1 g i hi e
   ·rw [if_neg c2]
    exact refDone_state f n r h.big nm seq c g c1 hx hq hq2 h.n1 c2
  ·rw [if_neg c1]
   exact refDone_arg f n r h.big nm seq c g (fun e => c1 (Or.inl e)) (fun e => c1 (Or.inr e))
 ·rw [dif_neg g]
  exact refDone_none f n r h.big nm seq c g
open Classical in
/-- What is told of an act that is refused. -/
noncomputable def errA (kk : Int) (nm : ByteArray) (kd : Int) (r : List RD) : Int := if kk = 4 then (if nm ∈ okNames then (if pN nm r < r.length then 4 else 6) else 3) else if kk = 5 then 5 else if kk < 10 then (if pN nm r < r.length then (if kd = 97 ∨ kd = 114 then 13 else 1) else 5) else 1
theorem errA_ne (kk : Int) (nm : ByteArray) (kd : Int) (r : List RD) : errA kk nm kd r ≠ 0 := by
 unfold errA
 split
 ·split
  ·split <;> decide
  ·decide
 ·split
  ·decide
  ·split
   ·split
    ·split <;> decide
    ·decide
   ·decide
theorem doesX_ev {f n : Int} {r : List RD} (h : Inv f n r) (hn : n < 1000) (kk : Int) (nm : ByteArray) (hnm : nm ∈ okNames ∨ nm = ⟨#[49]⟩) (seq kind kd : Int) (hk : postroomlaw10_kind.f kind = some kd) :
  Ev (fun k => doesX k f n (r.map progD) f n r nm seq kind kk) (match doA kk nm (Go.IntKind.u64.wrap seq) kd f n r with | some s => (s.1, s.2.1, s.2.2.map progD, 0, s.1, s.2.1, s.2.2, 0) | none => (0, 0, [], errA kk nm kd r, 0, 0, [], errA kk nm kd r)) := by
 classical
 have hb := h.big
 have h1 := h.f1
 have h2 := h.fn
 have hu0 : 0 ≤ Go.IntKind.u64.wrap seq := (u64_range seq).1
 have hu1 : Go.IntKind.u64.wrap seq < 18446744073709551616 := (u64_range seq).2
 unfold doA errA
 by_cases c1 : kk < 4
 ·rw [if_pos c1]
  obtain ⟨K, hK⟩ := radd_ev f n r hb h.sm
  refine ⟨K, fun k hk => ?_⟩
  show doesX k f n (r.map progD) f n r nm seq kind kk = _
  unfold doesX
  rw [if_pos c1, add_law f n r hb, show postroomref10_Add.f k f n r = some (f, Go.IntKind.u64.wrap (n + 1), radd r) from hK k hk, u64_small (by omega) (by omega), ← prog_radd r]
  rfl
 ·rw [if_neg c1]
  by_cases c2 : kk = 4
  ·rw [if_pos c2, if_pos c2]
   rcases hnm with hnm | hnm
   ·obtain ⟨n1, n2⟩ := name_ok nm hnm
    obtain ⟨K, hK⟩ := refJoin_ev f n r hb h.sm nm n2
    refine ⟨K, fun k hk => ?_⟩
    show doesX k f n (r.map progD) f n r nm seq kind kk = _
    have hK' : postroomref10_Join.f k f n r nm = _ := hK k hk
    unfold doesX
    rw [if_neg c1, if_pos c2, join_law f n r hb nm n1, hK', if_pos hnm]
    by_cases c3 : pN nm r < r.length
    ·rw [if_pos c3, if_pos c3, if_neg (fun g => g.2.1 c3), if_pos c3]; rfl
    ·rw [if_neg c3, if_neg c3, if_neg c3]
     by_cases c4 : 4 ≤ r.length
     ·rw [if_pos c4, if_pos c4, if_neg (fun g => by omega)]; rfl
     ·rw [if_neg c4, if_neg c4, if_pos ⟨hnm, c3, by omega⟩]; rfl
   ·subst hnm
    obtain ⟨n1, n2⟩ := name_bad
    obtain ⟨K, hK⟩ := refJoin_bad f n r _ n2
    have hno : (⟨#[49]⟩ : ByteArray) ∉ okNames := by simp [okNames]
    refine ⟨K, fun k hk => ?_⟩
    show doesX k f n (r.map progD) f n r _ seq kind kk = _
    have hK' : postroomref10_Join.f k f n r ⟨#[49]⟩ = _ := hK k hk
    unfold doesX
    rw [if_neg c1, if_pos c2, join_bad f n r _ n1, hK', if_neg (fun g => hno g.1), if_neg hno]
    rfl
  ·rw [if_neg c2, if_neg c2]
   by_cases c3 : kk = 5
   ·rw [if_pos c3, if_pos c3]
    obtain ⟨K, hK⟩ := refLeave_ev f n r hb h.sm nm
    refine ⟨K, fun k hk => ?_⟩
    show doesX k f n (r.map progD) f n r nm seq kind kk = _
    have hK' : postroomref10_Leave.f k f n r nm = _ := hK k hk
    unfold doesX
    rw [if_neg c1, if_neg c2, if_pos c3, leave_law f n r hb nm, hK']
    by_cases c4 : pN nm r < r.length
    ·rw [if_pos c4, if_pos c4, if_pos c4]; rfl
    ·rw [if_neg c4, if_neg c4, if_neg c4]; rfl
   ·rw [if_neg c3, if_neg c3]
    by_cases c4 : kk < 10
    ·rw [if_pos c4, if_pos c4]
     obtain ⟨K, hK⟩ := done_law h nm (Go.IntKind.u64.wrap seq) kd hu0
     obtain ⟨K', hK'⟩ := refDone_ev h nm (Go.IntKind.u64.wrap seq) kd hu0 hu1
     refine ⟨K + K', fun k hk' => ?_⟩
     have q1 : ledger_Done.f k f n (r.map progD) nm (Go.IntKind.u64.wrap seq) kd = _ := hK k (by omega)
     have q2 : postroomref10_Done.f k f n r nm (Go.IntKind.u64.wrap seq) kd = _ := hK' k (by omega)
     show doesX k f n (r.map progD) f n r nm seq kind kk = _
     unfold doesX
     rw [if_neg c1, if_neg c2, if_neg c3, if_pos c4, hk, Option.bind_some, q1, q2]
     by_cases c5 : pN nm r < r.length
     ·simp only [dif_pos c5, if_pos c5]
      by_cases c6 : kd = 97 ∨ kd = 114
      ·simp only [if_pos c6]
       by_cases c7 : isP r[pN nm r] (Go.IntKind.u64.wrap seq)
       ·simp only [if_pos c7, if_pos (And.intro c6 c7)]; rfl
       ·simp only [if_neg c7, if_neg (fun g : (kd = 97 ∨ kd = 114) ∧ isP r[pN nm r] (Go.IntKind.u64.wrap seq) => c7 g.2)]; rfl
      ·simp only [if_neg c6, if_neg (fun g : (kd = 97 ∨ kd = 114) ∧ isP r[pN nm r] (Go.IntKind.u64.wrap seq) => c6 g.1)]; rfl
     ·simp only [dif_neg c5, if_neg c5]; rfl
    ·rw [if_neg c4, if_neg c4]
     obtain ⟨K', hK'⟩ := refEvict_ev h (Go.IntKind.u64.wrap seq)
     refine ⟨K', fun k hk' => ?_⟩
     have q2 : postroomref10_Evict.f k f n r (Go.IntKind.u64.wrap seq) = _ := hK' k (by omega)
     show doesX k f n (r.map progD) f n r nm seq kind kk = _
     unfold doesX
     rw [if_neg c1, if_neg c2, if_neg c3, if_neg c4, evict_law h k, q2]
     by_cases c5 : f ≤ Go.IntKind.u64.wrap seq ∧ Go.IntKind.u64.wrap seq ≤ n
     ·simp only [if_pos c5]; rfl
     ·simp only [if_neg c5]; rfl
theorem pick_ev (a m : Int) (h0 : -9223372036854775808 ≤ a) (h1 : a < 9223372036854775808) (hm : 0 < m) : ∃ c, postroomlaw10_pick.f a m = some c ∧ 0 ≤ c ∧ c < m := by
 unfold postroomlaw10_pick.f
 by_cases c : a < 0
 ·rw [if_pos c, if_neg (by omega), w64' (x := a + 1) (by omega) (by omega), w64 (x := -(a + 1)) (by omega) (by omega)]
  exact ⟨_, rfl, Int.tmod_nonneg _ (by omega), Int.tmod_lt_of_pos _ hm⟩
 ·rw [if_neg c, if_neg (by omega)]
  exact ⟨_, rfl, Int.tmod_nonneg _ (by omega), Int.tmod_lt_of_pos _ hm⟩
theorem six {c : Int} (h0 : 0 ≤ c) (h1 : c < 6) : c = 0 ∨ c = 1 ∨ c = 2 ∨ c = 3 ∨ c = 4 ∨ c = 5 := by omega
theorem name_ev (a : Int) (h0 : -9223372036854775808 ≤ a) (h1 : a < 9223372036854775808) : ∃ nm, postroomlaw10_name.f a = some nm ∧ (nm ∈ okNames ∨ nm = ⟨#[49]⟩) := by
 obtain ⟨c, hc, c0, c1⟩ := pick_ev a 6 h0 h1 (by decide)
 unfold postroomlaw10_name.f
 rw [Option.bind_some, hc, Option.bind_some]
 rcases six c0 c1 with rfl | rfl | rfl | rfl | rfl | rfl
 ·exact ⟨⟨#[97]⟩, rfl, Or.inl (by simp [okNames])⟩
 ·exact ⟨⟨#[98]⟩, rfl, Or.inl (by simp [okNames])⟩
 ·exact ⟨⟨#[99]⟩, rfl, Or.inl (by simp [okNames])⟩
 ·exact ⟨⟨#[100]⟩, rfl, Or.inl (by simp [okNames])⟩
 ·exact ⟨⟨#[101]⟩, rfl, Or.inl (by simp [okNames])⟩
 ·exact ⟨⟨#[49]⟩, rfl, Or.inr rfl⟩
theorem kind_ev (a : Int) (h0 : -9223372036854775808 ≤ a) (h1 : a < 9223372036854775808) : ∃ c, postroomlaw10_kind.f a = some c := by
 obtain ⟨c, hc, c0, c1⟩ := pick_ev a 8 h0 h1 (by decide)
 unfold postroomlaw10_kind.f
 rw [hc, Option.bind_some, if_pos c0, if_pos c1]
 exact ⟨_, rfl⟩
abbrev Act := S43
def wfA (a : Act) : Prop := (-9223372036854775808 ≤ a.f0 ∧ a.f0 < 9223372036854775808) ∧ (-9223372036854775808 ≤ a.f1 ∧ a.f1 < 9223372036854775808) ∧ (-9223372036854775808 ≤ a.f2 ∧ a.f2 < 9223372036854775808) ∧ (-9223372036854775808 ≤ a.f3 ∧ a.f3 < 9223372036854775808)
abbrev St := Int × Int × List RD
def InvS (s : St) : Prop := Inv s.1 s.2.1 s.2.2
/-- An act, on the document's ledger. -/
noncomputable def stepA (s : St) (a : Act) : St := (doA ((postroomlaw10_pick.f a.f0 11).getD 0) ((postroomlaw10_name.f a.f1).getD ByteArray.empty) (Go.IntKind.u64.wrap a.f2) ((postroomlaw10_kind.f a.f3).getD 0) s.1 s.2.1 s.2.2).getD s
theorem stepA_inv {s : St} (h : InvS s) (hn : s.2.1 < 1000) (a : Act) : InvS (stepA s a) ∧ s.2.1 ≤ (stepA s a).2.1 ∧ (stepA s a).2.1 ≤ s.2.1 + 1 ∧ s.1 ≤ (stepA s a).1 := by
 unfold stepA
 cases e : doA ((postroomlaw10_pick.f a.f0 11).getD 0) ((postroomlaw10_name.f a.f1).getD ByteArray.empty) (Go.IntKind.u64.wrap a.f2) ((postroomlaw10_kind.f a.f3).getD 0) s.1 s.2.1 s.2.2 with
 | none => exact ⟨h, by simp, by simp; omega, by simp⟩
 | some s' => exact doA_inv h hn _ _ _ _ e
theorem does_ev {s : St} (h : InvS s) (hn : s.2.1 < 1000) (a : Act) (ha : wfA a) : Ev (fun k => postroomlaw10_does.f k s.1 s.2.1 (s.2.2.map progD) s.1 s.2.1 s.2.2 a.f0 a.f1 a.f2 a.f3) ((stepA s a).1, (stepA s a).2.1, (stepA s a).2.2.map progD, (stepA s a).1, (stepA s a).2.1, (stepA s a).2.2, true) := by
 obtain ⟨a0, a1, a2, a3⟩ := ha
 obtain ⟨kk, hkk, _, _⟩ := pick_ev a.f0 11 a0.1 a0.2 (by decide)
 obtain ⟨nm, hnm, hok⟩ := name_ev a.f1 a1.1 a1.2
 obtain ⟨kd, hkd⟩ := kind_ev a.f3 a3.1 a3.2
 obtain ⟨K, hK⟩ := doesX_ev h hn kk nm hok a.f2 a.f3 kd hkd
 obtain ⟨K', hK'⟩ := asL_inv (stepA_inv h hn a).1
 have es : stepA s a = (doA kk nm (Go.IntKind.u64.wrap a.f2) kd s.1 s.2.1 s.2.2).getD s := by
  unfold stepA; rw [hkk, hnm, hkd]; rfl
 refine ⟨K + K', fun k hk => ?_⟩
 have q1 : doesX k s.1 s.2.1 (s.2.2.map progD) s.1 s.2.1 s.2.2 nm a.f2 a.f3 kk = _ := hK k (by omega)
 have q2 := hK' k (by omega)
 show postroomlaw10_does.f k s.1 s.2.1 (s.2.2.map progD) s.1 s.2.1 s.2.2 a.f0 a.f1 a.f2 a.f3 = _
 unfold postroomlaw10_does.f
 rw [hnm, Option.bind_some, hkk, Option.bind_some, q1]
 rw [es] at q2 ⊢
 cases e : doA kk nm (Go.IntKind.u64.wrap a.f2) kd s.1 s.2.1 s.2.2 with
 | none =>
  show (if _ then _ else _) = _
  rw [if_pos ⟨rfl, rfl, rfl, asL_nil k⟩, if_neg (errA_ne _ _ _ _)]
  rfl
 | some s' =>
  rw [e] at q2
  show (if _ then _ else _) = _
  rw [if_pos ⟨rfl, rfl, rfl, q2⟩, if_pos rfl]
  rfl
/-- The document's ledger behind any acts. -/
noncomputable def runA (acts : List Act) : St := acts.foldl stepA (1, 1, [])
theorem inv_new : InvS (1, 1, []) := ⟨by decide, by decide, by decide, by decide, fun x hx => by simp at hx, List.Pairwise.nil⟩
theorem fold_inv : ∀ (l : List Act) (s : St), InvS s → s.2.1 + (l.length : Int) < 1000 → InvS (l.foldl stepA s) ∧ (l.foldl stepA s).2.1 ≤ s.2.1 + (l.length : Int)
 | [], s, h, hn => ⟨h, by simp⟩
 | a :: l, s, h, hn => by
  rw [List.length_cons] at hn
  obtain ⟨g1, g2, g3, g4⟩ := stepA_inv h (by omega) a
  obtain ⟨q1, q2⟩ := fold_inv l (stepA s a) g1 (by omega)
  exact ⟨q1, by rw [List.foldl_cons, List.length_cons]; omega⟩
theorem run_inv (acts : List Act) (h : acts.length ≤ 200) : InvS (runA acts) ∧ (runA acts).2.1 ≤ 1 + (acts.length : Int) := fold_inv acts _ inv_new (by show (1 : Int) + _ < 1000; omega)
theorem rdA (l : List Act) (i : Nat) (h : i < l.length) : rd_T43 l (i : Int) = l[i] := by
 unfold rd_T43; rw [Int.toNat_natCast, List.getD_eq_getElem?_getD, List.getElem?_eq_getElem h]; rfl
theorem run_l0 (l : List Act) (hl : l.length ≤ 200) (hw : ∀ a ∈ l, wfA a) : ∀ (d i : Nat), i + d = l.length → Ev (fun k => postroomlaw10_run.l0 k l (i : Int) (runA (l.take i)).1 (runA (l.take i)).2.1 ((runA (l.take i)).2.2.map progD) (runA (l.take i)).1 (runA (l.take i)).2.1 (runA (l.take i)).2.2) ((runA l).1, (runA l).2.1, (runA l).2.2.map progD)
 | 0, i, hi => by
  refine Ev.stop fun k => ?_
  rw [postroomlaw10_run.l0, if_neg (by omega), List.take_of_length_le (by omega)]
 | d + 1, i, hi => by
  have hlt : i < l.length := by omega
  have hlen : (l.take i).length ≤ 200 := by rw [List.length_take]; omega
  obtain ⟨g1, g2⟩ := run_inv (l.take i) hlen
  have hd := does_ev g1 (by omega) l[i] (hw _ (List.getElem_mem hlt))
  have ih := run_l0 l hl hw d (i + 1) (by omega)
  have e : runA (l.take (i + 1)) = stepA (runA (l.take i)) l[i] := by
   rw [← List.take_append_getElem hlt]; unfold runA; rw [List.foldl_append]; rfl
  rw [e] at ih
  have e2 : wrap64 ((i : Int) + 1) = ((i + 1 : Nat) : Int) := by rw [w64 (by omega) (by omega)]; omega
  refine Ev.step (fun k => ?_) (Ev.bind (f := fun k bt => postroomlaw10_run.l0 k l ((i + 1 : Nat) : Int) bt.1 bt.2.1 bt.2.2.1 bt.2.2.2.1 bt.2.2.2.2.1 bt.2.2.2.2.2.1) hd ih)
  rw [postroomlaw10_run.l0, if_pos (by omega), if_pos (by omega), rdA l i hlt, e2]
theorem run_ev (l : List Act) (hl : l.length ≤ 200) (hw : ∀ a ∈ l, wfA a) : Ev (fun k => postroomlaw10_run.f k l) ((runA l).1, (runA l).2.1, (runA l).2.2.map progD) := by
 have h := run_l0 l hl hw l.length 0 (by omega)
 exact h
end Go.Proofs.YthhmpjapnkilcaaDoor.Ldg
