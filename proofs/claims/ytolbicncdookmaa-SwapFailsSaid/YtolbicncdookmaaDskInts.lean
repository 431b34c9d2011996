/- A map of numbers to texts: what it reads as; its keys, sorted. Conditions: none. -/
import Derived.Test.YtolbicncdookmaaDskAt
import Derived.Maps.StringElems

namespace Go.Proofs.Ytolbicncdookmaa.XDsk
open Go Go.RowKit Go.Maps Go.Sort Go.Shelf Go.Proofs.YtolbicncdookmaaW.PrintWords Go.Proofs.YtolbicncdookmaaW.PrintLast Go.Proofs.YtolbicncdookmaaW.PrintMore Go.Proofs.Ytolbicncdookmaa.Num
set_option linter.unusedVariables false
set_option linter.unusedSimpArgs false
abbrev Nums := List (Int × ByteArray)
def entI (p : Int × ByteArray) : Lit × DataW Unit := (.int .i64 p.1, .lit (.string p.2.data.toList))
def mapI (m : Nums) : DataW Unit := .map (m.map entI)
def getI (m : Nums) (i : Int) : Option ByteArray := (m.find? (fun p => p.1 == i)).map (·.2)
def insI (x : Int × ByteArray) : Nums → Nums
  | [] => [x]
  | y :: l => if x.1 < y.1 then x :: y :: l else y :: insI x l
def putI (m : Nums) (i : Int) (s : ByteArray) : Nums := insI (i, s) (m.filter (fun p => !(p.1 == i)))
theorem mapI_ins (x : Int × ByteArray) : ∀ m : Nums, (insI x m).map entI = DataW.insert (entI x) (m.map entI)
  | [] => rfl
  | y :: l => by
    by_cases h : x.1 < y.1
    · have e1 : insI x (y :: l) = x :: y :: l := by rw [insI, if_pos h]
      have e2 : DataW.insert (entI x) ((y :: l).map entI) = entI x :: (y :: l).map entI := if_pos (decide_eq_true h)
      rw [e1, e2]; rfl
    · have e1 : insI x (y :: l) = y :: insI x l := by rw [insI, if_neg h]
      have e2 : DataW.insert (entI x) ((y :: l).map entI) = entI y :: DataW.insert (entI x) (l.map entI) := if_neg (by show ¬ decide (x.1 < y.1) = true; simpa using h)
      rw [e1, e2, ← mapI_ins x l]; rfl
theorem same_int (a b : Int) : (Lit.int .i64 a).sameKey (.int .i64 b) = (a == b) := by
  show decide (IntKind.i64 = IntKind.i64 ∧ a = b) = (a == b)
  by_cases h : a = b <;> simp [h]
theorem mapI_filter (i : Int) (m : Nums) : (m.filter (fun p => !(p.1 == i))).map entI = (m.map entI).filter (fun p => !p.1.sameKey (.int .i64 i)) := by
  rw [List.filter_map]
  congr 1
  refine List.filter_congr (fun p _ => ?_)
  show (!(p.1 == i)) = !((Lit.int .i64 p.1).sameKey (.int .i64 i))
  rw [same_int]
theorem mapI_put (m : Nums) (i : Int) (s : ByteArray) : (mapI m).put (.int .i64 i) (.lit (.string s.data.toList)) = mapI (putI m i s) := by
  unfold mapI putI
  rw [mapI_ins, mapI_filter]; rfl
theorem find_entI (m : Nums) (i : Int) : (m.map entI).find? (fun p => p.1.sameKey (.int .i64 i)) = (m.find? (fun p => p.1 == i)).map entI := by
  rw [List.find?_map]
  congr 1
  refine congrFun (congrArg List.find? (funext fun p => ?_)) m
  exact same_int _ _
theorem at_mapI (m : Nums) (i : Int) (s : ByteArray) (h : getI m i = some s) (z : DataW Unit) : (mapI m).atKey (.int .i64 i) z = .lit (.string s.data.toList) := by
  unfold mapI DataW.atKey
  simp only []
  rw [find_entI]
  unfold getI at h
  cases e : m.find? (fun p => p.1 == i) with
  | none => rw [e] at h; cases h
  | some p => rw [e] at h; injection h with h; subst h; rfl
theorem insI_mem (x y : Int × ByteArray) : ∀ m : Nums, y ∈ insI x m ↔ y = x ∨ y ∈ m
  | [] => by simp [insI]
  | z :: l => by
    by_cases h : x.1 < z.1
    · rw [insI, if_pos h]; simp
    · rw [insI, if_neg h]
      simp only [List.mem_cons, insI_mem x y l]
      constructor
      · rintro (h | h | h)
        · exact .inr (.inl h)
        · exact .inl h
        · exact .inr (.inr h)
      · rintro (h | h | h)
        · exact .inr (.inl h)
        · exact .inl h
        · exact .inr (.inr h)
theorem putI_mem (m : Nums) (i : Int) (s : ByteArray) (y : Int × ByteArray) : y ∈ putI m i s ↔ y = (i, s) ∨ (y ∈ m ∧ y.1 ≠ i) := by
  unfold putI
  rw [insI_mem, List.mem_filter]
  simp
/-- Block g is a map of numbers that reads as m. -/
def MapI (w : World) (g : Nat) (m : Nums) : Prop := w.ownsMap Try.prog 3 (plainElem Try.prog 9) g m.length (mapI m)
theorem law_i : Keyed Try.prog 3 := int_keyed Try.underlying3
theorem zero_s (w : World) : (zeroValue 9).run Try.prog w = .ok (.string ⟨#[]⟩) w := by kernel_rfl
theorem size_mapI (m : Nums) : Maps.size (mapI m) = m.length := by unfold mapI; rw [Maps.size_eq, List.length_map]
theorem mapI_exact {w : World} {g n : Nat} {m : Nums} (h : w.ownsMap Try.prog 3 (plainElem Try.prog 9) g n (mapI m)) : MapI w g m := by
  obtain ⟨es, clock, hb, F, hs, hD⟩ := h
  refine ⟨es, clock, hb, F, ?_, hD⟩
  have := congrArg Maps.size hD
  rw [size_mapI, Maps.size_eq, Go.length_sorted, List.length_map, Array.length_toList] at this
  exact Nat.le_of_eq this.symm
theorem MapI.same {w w' : World} {g : Nat} {m : Nums} (h : MapI w g m) (e : w'.heap[g]? = w.heap[g]?) : MapI w' g m := by
  obtain ⟨es, clock, hb, r⟩ := h
  exact ⟨es, clock, e.trans hb, r⟩
theorem MapI.lt {w : World} {g : Nat} {m : Nums} (h : MapI w g m) : g < w.heap.size := World.ownsMap.lt h
theorem MapI.obj {w : World} {g : Nat} {m : Nums} (h : MapI w g m) : ∃ es c, w.heap[g]? = some (.map es c) := by
  obtain ⟨es, clock, hb, r⟩ := h
  exact ⟨es, clock, hb⟩
theorem MapI.rising {w : World} {g : Nat} {m : Nums} (h : MapI w g m) : m.Pairwise (fun p q => p.1 < q.1) := by
  obtain ⟨es, he, hp, _⟩ := World.ownsMap.canon h law_i
  unfold mapI at he
  injection he with he
  rw [← he, List.pairwise_map] at hp
  exact hp.imp (fun {a b} hab => of_decide_eq_true hab)
theorem mapI_made (w : World) (g : Nat) (h : w.heap[g]? = some (.map #[] 0)) : MapI w g [] := by
  have h0 := World.ownsMap_made (H := Unit) w Try.prog 3 (plainElem Try.prog 9)
  obtain ⟨es, c, hb, F, hs, hD⟩ := h0
  have e1 : (w.alloc (.map #[] 0)).heap[w.heap.size]? = some (.map #[] 0) := blk_new w _
  rw [e1] at hb
  injection hb with hb
  injection hb with e2 e3
  subst e2 e3
  exact ⟨#[], 0, h, F, hs, hD⟩
/-- In a map of rising numbers an entry is what is got. -/
theorem getI_iff {m : Nums} (h : m.Pairwise (fun p q => p.1 < q.1)) (i : Int) (s : ByteArray) : getI m i = some s ↔ (i, s) ∈ m := by
  induction m with
  | nil => simp [getI]
  | cons y l ih =>
    obtain ⟨h1, h2⟩ := List.pairwise_cons.1 h
    unfold getI at ih ⊢
    by_cases hy : y.1 = i
    · rw [List.find?_cons_of_pos (by simpa using hy)]
      obtain ⟨a, c⟩ := y
      simp only at hy
      subst hy
      simp only [Option.map_some, Option.some.injEq, List.mem_cons, Prod.mk.injEq, true_and]
      constructor
      · intro e; exact .inl e.symm
      · rintro (e | e)
        · exact e.symm
        · have := h1 _ e; simp at this
    · rw [List.find?_cons_of_neg (by simpa using hy), ih h2]
      simp only [List.mem_cons]
      constructor
      · exact .inr
      · rintro (e | e)
        · exact absurd (congrArg Prod.fst e).symm hy
        · exact e
theorem wp_putI (w : World) {ops : Array Oper} {rest : List Oper} {o : Oper} {a : Act} {Q : Exit → Act → World → Prop} {g : Nat} {m : Nums} {s : ByteArray} {i : Int} (hm : MapI w g m) (hs : s.size ≤ maxLen) (hl : m.length < maxLen) (hi : (Lit.int .i64 i).wf = true) (hg : o.guard = none) (mo x v : Operand) (hop : o.op = Op.mapUpdate 74 mo x v) (e1 : a.eval mo = .map (some g)) (e2 : a.eval x = .int .i64 i) (e3 : a.eval v = .string s)
    (hK : ∀ w', MapI w' g (putI m i s) → w.grownBy w' (some g) → wpList Try.prog ops Q rest (a.put o.dst undef) w') : wpList Try.prog ops Q (o :: rest) a w := by
  refine wpList_mapUpdate_own w hg mo x v 74 hop 3 9 law_i Try.underlying74 (plainElem Try.prog 9) g m.length (mapI m) e1 hm hl (.int .i64 i) (.string s) _ e2 e3 (keyOf_int_mk Try.underlying3 hi) _ [] (plainElem_string Try.underlying9 hs) fun w' h1 h2 => ?_
  rw [mapI_put] at h1
  exact hK w' (mapI_exact h1) h2
/-- What a look-up runs to. -/
theorem run_getI {w : World} {g : Nat} {m : Nums} {s : ByteArray} {i : Int} (hm : MapI w g m) (hget : getI m i = some s) (hi : (Lit.int .i64 i).wf = true) : (Instr.lookup 74 (.map (some g)) (.int .i64 i) false).run Try.prog w = .ok (.string s) w := by
  obtain ⟨v, ps, hrun, hv⟩ := World.ownsMap.lookup hm law_i Try.underlying74 (zero_s w) (plainElem_string Try.underlying9 (by decide)) (keyOf_int_mk Try.underlying3 hi)
  rw [at_mapI m i s hget] at hv
  obtain ⟨x, rfl, hx, _⟩ := plainElem_string_inv Try.underlying9 hv
  simp only [Prod.mk.injEq, DataW.lit.injEq, Lit.string.injEq] at hx
  have : s = x := by
    apply ByteArray.ext
    exact Array.toList_inj.1 hx.1
  rw [this]
  exact hrun
/-! ### keys that are numbers -/
theorem keysI_calls (mb : Option Nat) (W : World) : Calls Try.prog 43 #[.map mb] W fun e w' => e = .returned (.func (.func 52) #[] #[.pointer (some ⟨W.heap.size, 0, none⟩)]) ∧ w' = W.alloc (.cells #[.map mb] 74) :=
  (callsIn_wide (n := 5)).1 (AnyZI.keys_in Try.keysI Fence.wide 5 trivial rfl mb W)
theorem sortsI (m : Nat) : AnyZI.SortsIn Try.prog Try.sortedI_ren Fence.wide m :=
  ⟨fun blk off cap ss W hH hblk hsz => callsIn_wide.2 (AnyM.slices_Sort_int Try.sortI blk off cap ss W hH hblk hsz), fun p cap W => callsIn_wide.2 (AnyM.slices_Sort_int_none Try.sortI p cap W)⟩
set_option maxHeartbeats 1000000 in
theorem sortedI_calls {H : Type} (b nn : Nat) (D0 : DataW H) (R : Value → Option (DataW H × List MemPlace)) (w : World) (hown : w.ownsMap Try.prog 3 R b nn D0) (hmax : Maps.size D0 ≤ maxLen) (hbytes : Maps.size D0 * 8 ≤ 140737488355328) :
    Calls Try.prog 42 #[.func (.func 52) #[] #[.pointer (some ⟨w.heap.size, 0, none⟩)]] (w.alloc (.cells #[.map (some b)] 74)) fun e w' => ∃ (v : Value) (ss : List Int), e = .returned v ∧ ss.Perm (intKeys D0) ∧
      w'.ownsRow (w.alloc (.cells #[.map (some b)] 74)).heap.size 3 1 v ss.length ((ss.mergeSort (fun x y => decide (x ≤ y))).map encZ) ∧ (v = .slice none 0 0 ↔ ss = []) ∧ Below (w.alloc (.cells #[.map (some b)] 74)).heap.size (w.alloc (.cells #[.map (some b)] 74)) w' := by
  have hbl := hown.lt
  have hseq : SeqGives Fence.wide 2 Try.prog 52 #[.pointer (some ⟨w.heap.size, 0, none⟩)] encZ (fun ss => ss.Perm (intKeys D0)) (Maps.size D0) (w.alloc (.cells #[.map (some b)] 74)) :=
    AnyZI.keys_gives (ρ := Try.keysI_ren) { Try.keysI with } Fence.wide _ trivial rfl (by omega) w.heap.size b nn D0 _ (by simp) (by simp) (by
      obtain ⟨es, clock, hb, Ft, hs, hD⟩ := hown
      exact ⟨es, clock, (Below.heap_alloc _ _ b hbl).trans hb, Ft, hs, hD⟩)
  exact (callsIn_wide (n := 5)).1 (AnyZI.sorted_in Try.sortedI Fence.wide 5 trivial trivial trivial trivial rfl (by omega) (sortsI _) (enters_of Try.func51 (by kernel_rfl) rfl) 52 #[.pointer (some ⟨w.heap.size, 0, none⟩)] trivial (enters_of Try.func52 (by kernel_rfl) rfl) _ _ hmax hbytes _ hseq)
theorem intKeys_mapI (m : Nums) : intKeys (mapI m) = m.map (·.1) := by
  unfold mapI intKeys
  simp only []
  rw [List.map_map]; rfl
end Go.Proofs.Ytolbicncdookmaa.XDsk
