/- A row of acts: how long each text is; what light tells of it; the cells of each act. Conditions: none but those that each theorem names. -/
import Derived.Test.YtolbicncdookmaaDskMany
import Derived.Test.YtolbicncdookmaaXDskx1
import Derived.Test.YtolbicncdookmaaOpens
import Derived.Test.YtolbicncdookmaaXDskx0
import Derived.Test.YtolbicncdookmaaXDskx1
namespace Go.Proofs.Ytolbicncdookmaa.XDsk
open Go Go.RowKit Go.Maps Go.Sort Go.Shelf Go.Proofs.YtolbicncdookmaaW.PrintWords Go.Proofs.YtolbicncdookmaaW.PrintLast Go.Proofs.YtolbicncdookmaaW.PrintMore Go.Proofs.Ytolbicncdookmaa.Num
set_option linter.unusedVariables false
set_option linter.unusedSimpArgs false
abbrev Act1 := S44
def actsWf (l : List Act1) : Prop := ∀ x ∈ l, x.f4.size ≤ 140737488351232 ∧ x.f5.size ≤ 140737488351232
theorem weights_all {H : Type} {P : Program} {e : TypeId} : ∀ {l : List (DataW H)} {d : DataW H}, d ∈ l → ∀ n ∈ d.weights P e, n ∈ DataW.weightsAll P e l
  | d0 :: l, d, hd, n, hn => by
    simp only [DataW.weightsAll, List.mem_append]
    rcases List.mem_cons.1 hd with rfl | h
    · exact .inl hn
    · exact .inr (weights_all h n hn)
  | [], _, hd, _, _ => by cases hd
theorem field_text {H : Type} {enc : TypeId × Value → H} {w : World} {base : Nat} {spare : Nat → Bool} {held : Bool} {n : Nat} {cs : List Value} {x : DataW H × List MemPlace} {fs : Array Field} {t : TypeId}
    (ht : Try.prog.underlying t = some (.struct fs)) (h : DataW.trod enc Try.prog w base spare held n t cs = some x) (hw : ∀ n ∈ x.1.weights Try.prog t, n ≤ reachBytes) {i : Nat} {f : Field} (hf : fs[i]? = some f) (hft : f.type = 9) :
    ∃ s : ByteArray, (cs.drop f.offset).take (Try.prog.cellsOf f.type) = [.string s] ∧ s.size ≤ 140737488351232 := by
  obtain ⟨xs, m, rfl, rfl, _, hl, hfs⟩ := DataW.trod_struct ht h
  have hi : i < xs.length := by rw [hl]; exact (Array.getElem?_eq_some_iff.1 hf).1
  have h1 := hfs i f hf
  rw [List.getElem?_eq_getElem hi, hft] at h1
  obtain ⟨s, hs, hx, _⟩ := DataW.trod_string Try.underlying9 h1
  refine ⟨s, by rw [hft]; exact hs, ?_⟩
  have hm : s.data.toList.length ∈ (DataW.agg (xs.map (·.1)) : DataW H).weights Try.prog t := by
    simp only [DataW.weights, ht]
    refine DataW.weights_mem_each (j := i) (t := 9) (d := .lit (.string s.data.toList)) ?_ ?_ _ (by simp [DataW.weights])
    · rw [List.getElem?_map, Array.getElem?_toList, hf, ← hft]; rfl
    · rw [List.getElem?_map, List.getElem?_eq_getElem hi, hx]; rfl
  have := hw _ hm
  rw [Array.length_toList] at this
  exact this
theorem acts_sized {H : Type} {enc : TypeId × Value → H} {w : World} {base : Nat} {spare : Nat → Bool} {held : Bool} {ts : List TypeId} {ds : List (DataW H)} {d : DataW H} {p : List MemPlace} {A : Option Addr} {c j : Nat} {l : List Act1}
    (hsz : (DataW.weightsEach Try.prog ts ds).all (· ≤ reachBytes) = true) (ht : ts[j]? = some 39) (hd : ds[j]? = some d) (h : DataW.Trod enc Try.prog w base spare held 39 (.slice A l.length c) d p) (hC : Kd.C k44 w A l.length l) : actsWf l := by
  intro x hx
  obtain ⟨k, hk, rfl⟩ := List.mem_iff_getElem.1 hx
  obtain ⟨fuel, hf⟩ := h
  have hc6 : Try.prog.cellsOf 44 = 6 := by kernel_rfl
  rcases Deep.open_slice Try.underlying39 hf with ⟨hcs, _⟩ | ⟨a, len, cap, m, n, D, Pl, hcs, _, hl, hm, hmm, hx2, hel⟩
  · simp [Value.cells] at hcs
    obtain ⟨_, h0, _⟩ := hcs
    rw [h0] at hk
    simp at hk
  · simp [Value.cells] at hcs
    obtain ⟨rfl, rfl, rfl⟩ := hcs
    have hkm : k < m := by rw [hmm]; split <;> omega
    obtain ⟨cs', h1, h2⟩ := hel k hkm
    have hwD : ∀ n ∈ (D k).weights Try.prog 44, n ≤ reachBytes := fun n hn => by
      have e : d = (DataW.slice ((List.range l.length).map D) ((List.range (m - l.length)).map fun j => D (l.length + j))) := (Prod.mk.inj hx2).1
      have := List.all_eq_true.1 hsz n (DataW.weights_mem_each ht hd n (by
        rw [e]
        simp only [DataW.weights, Try.underlying39]
        exact List.mem_cons_of_mem _ (List.mem_append_left _ (weights_all (List.mem_map.2 ⟨k, List.mem_range.2 hk, rfl⟩) n hn))))
      simpa using this
    obtain ⟨s4, e4, z4⟩ := field_text Try.underlying44 h2 hwD (i := 4) rfl rfl
    obtain ⟨s5, e5, z5⟩ := field_text Try.underlying44 h2 hwD (i := 5) rfl rfl
    rw [hc6] at h1
    obtain ⟨_, hlen, hcell⟩ := World.cells?_some h1
    obtain ⟨ad, ea, _, _, _, _, c4, c5⟩ := at_T44 hC (k : Int) (by omega) (by omega)
    injection ea with ea
    subst ea
    have hr : rd_T44 l (k : Int) = l[k] := by unfold rd_T44; rw [Int.toNat_natCast, List.getD_eq_getElem?_getD, List.getElem?_eq_getElem hk]; rfl
    rw [hr, Int.toNat_natCast] at c4 c5
    have q1 : Try.prog.cellsOf 9 = 1 := by kernel_rfl
    have g4 : cs'[4]? = some (.string s4) := by
      have := congrArg (fun z : List Value => z[0]?) e4
      simpa [q1, List.getElem?_take, List.getElem?_drop] using this
    have g5 : cs'[5]? = some (.string s5) := by
      have := congrArg (fun z : List Value => z[0]?) e5
      simpa [q1, List.getElem?_take, List.getElem?_drop] using this
    have k4 := (hcell 4 (by omega)).trans g4
    have k5 := (hcell 5 (by omega)).trans g5
    rw [Deep.add_add, add_field _ _ 4 (by omega)] at k4
    rw [Deep.add_add, add_field _ _ 5 (by omega)] at k5
    have i4 := Option.some.inj (k4.symm.trans c4)
    have i5 := Option.some.inj (k5.symm.trans c5)
    injection i4 with i4
    injection i5 with i5
    exact ⟨by rw [← i4]; exact z4, by rw [← i5]; exact z5⟩
/-- An act's cells, wherever the old memory stands. -/
theorem act_cells {w : World} {A : Option Addr} {l : List Act1} {k : Nat} (hC : Kd.C k44 w A l.length l) (hk : k < l.length) : ∃ ad, A = some ad ∧ ∀ W, Below w.heap.size w W →
    W.cell? (ad.add (k * 6)) = some (.int .i64 l[k].f0) ∧ W.cell? ⟨(ad.add (k * 6)).block, (ad.add (k * 6)).off + 1, none⟩ = some (.int .i64 l[k].f1) ∧ W.cell? ⟨(ad.add (k * 6)).block, (ad.add (k * 6)).off + 2, none⟩ = some (.int .i64 l[k].f2) ∧ W.cell? ⟨(ad.add (k * 6)).block, (ad.add (k * 6)).off + 3, none⟩ = some (.int .i64 l[k].f3) ∧ W.cell? ⟨(ad.add (k * 6)).block, (ad.add (k * 6)).off + 4, none⟩ = some (.string l[k].f4) ∧ W.cell? ⟨(ad.add (k * 6)).block, (ad.add (k * 6)).off + 5, none⟩ = some (.string l[k].f5) := by
  obtain ⟨ad, ea, c0, c1, c2, c3, c4, c5⟩ := at_T44 hC (k : Int) (by omega) (by omega)
  have hr : rd_T44 l (k : Int) = l[k] := by unfold rd_T44; rw [Int.toNat_natCast, List.getD_eq_getElem?_getD, List.getElem?_eq_getElem hk]; rfl
  rw [hr, Int.toNat_natCast] at c0 c1 c2 c3 c4 c5
  have hb : (ad.add (k * 6)).block < w.heap.size := World.block_lt_of_cell? w _ c0
  refine ⟨ad, ea, fun W h => ⟨(h.cell hb).trans c0, ?_, ?_, ?_, ?_, ?_⟩⟩
  · exact (h.cell (p := ⟨(ad.add (k * 6)).block, (ad.add (k * 6)).off + 1, none⟩) hb).trans c1
  · exact (h.cell (p := ⟨(ad.add (k * 6)).block, (ad.add (k * 6)).off + 2, none⟩) hb).trans c2
  · exact (h.cell (p := ⟨(ad.add (k * 6)).block, (ad.add (k * 6)).off + 3, none⟩) hb).trans c3
  · exact (h.cell (p := ⟨(ad.add (k * 6)).block, (ad.add (k * 6)).off + 4, none⟩) hb).trans c4
  · exact (h.cell (p := ⟨(ad.add (k * 6)).block, (ad.add (k * 6)).off + 5, none⟩) hb).trans c5
/-! ### light -/
def textsSum (l : List Act1) : Nat := (l.map (fun x => x.f5.size + x.f4.size)).sum
theorem texts_le (l : List Act1) (h : actsWf l) : textsSum l ≤ l.length * 281474976702464 := by
  induction l with
  | nil => exact Nat.zero_le _
  | cons x r ih =>
    have h1 := h x (List.mem_cons_self ..)
    have h2 := ih (fun y hy => h y (List.mem_cons_of_mem _ hy))
    unfold textsSum at h2 ⊢
    rw [List.map_cons, List.sum_cons, List.length_cons, Nat.add_mul]
    omega
theorem texts_cons {l : List Act1} {k : Nat} (hk : k < l.length) : textsSum (l.drop k) = (l[k].f5.size + l[k].f4.size) + textsSum (l.drop (k + 1)) := by
  rw [List.drop_eq_getElem_cons hk]
  unfold textsSum
  rw [List.map_cons, List.sum_cons]
/-- Light: not more than 100 acts, texts of not more than 1000 bytes. -/
theorem light_step (l : List Act1) : ∀ (m : Nat) (k : Nat) (s : Int), l.length - k = m → k ≤ l.length → l.length < 4611686018427387904 →
    postroomlaw7_light.l0 (m + 1) l s (k : Int) = if l.length ≤ 100 then some (decide ((List.range' k (l.length - k)).foldl (fun (a : Int) (i : Nat) => wrap64 ((wrap64 (a + ((rd_T44 l (i : Int)).f5.size : Int))) + ((rd_T44 l (i : Int)).f4.size : Int))) s ≤ 1000)) else some false
  | 0, k, s, hm, hk, hb => by
    have e : k = l.length := by omega
    subst e
    rw [postroomlaw7_light.l0, if_neg (by omega), Nat.sub_self]
    by_cases h : l.length ≤ 100
    · rw [if_pos (by omega), if_pos h]; rfl
    · rw [if_neg (by omega), if_neg h]
  | m + 1, k, s, hm, hk, hb => by
    have ih := light_step l m (k + 1) (wrap64 ((wrap64 (s + ((rd_T44 l (k : Int)).f5.size : Int))) + ((rd_T44 l (k : Int)).f4.size : Int))) (by omega) (by omega) hb
    rw [postroomlaw7_light.l0, if_pos (by omega), if_pos (by omega), w64_id (x := (k : Int) + 1) (by omega) (by omega)]
    rw [show ((k : Int) + 1) = ((k + 1 : Nat) : Int) by omega, ih, show l.length - k = (l.length - (k + 1)) + 1 by omega, List.range'_succ, List.foldl_cons]
theorem light_sum (l : List Act1) (hl : l.length ≤ 100) (h : actsWf l) : ∀ (m k : Nat) (s : Int), l.length - k = m → k ≤ l.length → 0 ≤ s → s + textsSum (l.drop k) < 9223372036854775807 →
    (List.range' k (l.length - k)).foldl (fun (a : Int) (i : Nat) => wrap64 ((wrap64 (a + ((rd_T44 l (i : Int)).f5.size : Int))) + ((rd_T44 l (i : Int)).f4.size : Int))) s = s + textsSum (l.drop k)
  | 0, k, s, hm, hk, h0, hs => by
    have e : k = l.length := by omega
    subst e
    rw [Nat.sub_self, List.drop_eq_nil_of_le (Nat.le_refl _)]
    show s = s + ((0 : Nat) : Int)
    omega
  | m + 1, k, s, hm, hk, h0, hs => by
    have hk' : k < l.length := by omega
    have ec := texts_cons hk'
    have hr : rd_T44 l (k : Int) = l[k] := by unfold rd_T44; rw [Int.toNat_natCast, List.getD_eq_getElem?_getD, List.getElem?_eq_getElem hk']; rfl
    rw [show l.length - k = (l.length - (k + 1)) + 1 by omega, List.range'_succ, List.foldl_cons, hr, w64_id (x := s + (l[k].f5.size : Int)) (by omega) (by omega), w64_id (by omega) (by omega)]
    rw [light_sum l hl h m (k + 1) _ (by omega) (by omega) (by omega) (by omega)]
    omega
theorem light_is (l : List Act1) (hm : l.length * 64 ≤ 140737488351232) (h : actsWf l) : ∃ k r, postroomlaw7_light.f k l = some r ∧ (r = true → l.length ≤ 100 ∧ textsSum l ≤ 1000) := by
  have h1 := light_step l l.length 0 0 (by omega) (by omega) (by omega)
  by_cases hl : l.length ≤ 100
  · have h2 := light_sum l hl h l.length 0 0 (by omega) (by omega) (by omega) (by have := texts_le l h; rw [List.drop_zero]; omega)
    rw [if_pos hl, h2] at h1
    refine ⟨_, _, h1, fun hd => ⟨hl, ?_⟩⟩
    have := of_decide_eq_true hd
    rw [List.drop_zero] at this
    omega
  · rw [if_neg hl] at h1
    exact ⟨_, _, h1, fun hd => by cases hd⟩
theorem pick_is (a b : Int) (ha : (Lit.int .i64 a).wf = true) (hb : 0 < b) (hb2 : b ≤ 1000) : ∃ r, postroomlaw7_pick.f a b = some r ∧ 0 ≤ r ∧ r < b := by
  have hw : -9223372036854775808 ≤ a ∧ a < 9223372036854775808 := by
    simp [Lit.wf, IntKind.min, IntKind.max, IntKind.signed, IntKind.bits] at ha; omega
  unfold postroomlaw7_pick.f
  by_cases h : a < 0
  · rw [if_pos h, if_neg (by omega), w64_id (x := a + 1) (by omega) (by omega), w64_id (by omega) (by omega)]
    exact ⟨_, rfl, Int.tmod_nonneg _ (by omega), Int.tmod_lt_of_pos _ hb⟩
  · rw [if_neg h, if_neg (by omega)]
    exact ⟨_, rfl, Int.tmod_nonneg _ (by omega), Int.tmod_lt_of_pos _ hb⟩
theorem name_is (a : Int) (s : ByteArray) (ha : (Lit.int .i64 a).wf = true) : ∃ r, postroomlaw7_name.f a s = some r ∧ (r.size ≤ 2 ∨ r = s) := by
  obtain ⟨p, hp, h0, h5⟩ := pick_is a 5 ha (by omega) (by omega)
  have e : postroomlaw7_name.f a s = (if p < 4 then (if 0 ≤ p then (if p < ((([(⟨#[97]⟩ : ByteArray), (⟨#[98]⟩ : ByteArray), (⟨#[99]⟩ : ByteArray), (⟨#[99, 107]⟩ : ByteArray)] : List ByteArray)).length : Int) then (some (rdOf ByteArray.empty [(⟨#[97]⟩ : ByteArray), (⟨#[98]⟩ : ByteArray), (⟨#[99]⟩ : ByteArray), (⟨#[99, 107]⟩ : ByteArray)] p)) else (none)) else (none)) else (some s)) := by
    unfold postroomlaw7_name.f
    rw [Option.bind_some, hp]
    rfl
  rw [e]
  by_cases h4 : p < 4
  · rw [if_pos h4, if_pos h0, if_pos (by simp; omega)]
    refine ⟨_, rfl, .inl ?_⟩
    have : p = 0 ∨ p = 1 ∨ p = 2 ∨ p = 3 := by omega
    rcases this with rfl | rfl | rfl | rfl <;> decide
  · rw [if_neg h4]
    exact ⟨_, rfl, .inr rfl⟩
/-! ### the same row -/
theorem same_step (l : List ByteArray) (hb : l.length < 4611686018427387904) : ∀ (m k : Nat), l.length - k = m → k ≤ l.length → postroomlaw7_same.l0 (m + 1) l l (k : Int) = some true
  | 0, k, hm, hk => by rw [postroomlaw7_same.l0, if_neg (by omega)]
  | m + 1, k, hm, hk => by
    rw [postroomlaw7_same.l0, if_pos (by omega), if_pos (by omega), if_pos (by omega), if_pos rfl, w64_id (x := (k : Int) + 1) (by omega) (by omega), show ((k : Int) + 1) = ((k + 1 : Nat) : Int) by omega]
    exact same_step l hb m (k + 1) (by omega) (by omega)
theorem same_is (l : List ByteArray) (hb : l.length < 4611686018427387904) : ∃ k, postroomlaw7_same.f k l l = some true := by
  refine ⟨l.length + 1, ?_⟩
  unfold postroomlaw7_same.f
  rw [if_pos rfl]
  exact same_step l hb l.length 0 (by omega) (by omega)
end Go.Proofs.Ytolbicncdookmaa.XDsk
