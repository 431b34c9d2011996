/- Names by their numbers: a map filled in whatever order; the numbers, sorted. Conditions: no two names have one number. -/
import Derived.Test.YtolbicncdookmaaDskInts

namespace Go.Proofs.Ytolbicncdookmaa.XDsk
open Go Go.RowKit Go.Maps Go.Sort Go.Shelf Go.Proofs.YtolbicncdookmaaW.PrintWords Go.Proofs.YtolbicncdookmaaW.PrintLast Go.Proofs.YtolbicncdookmaaW.PrintMore Go.Proofs.Ytolbicncdookmaa.Num
set_option linter.unusedVariables false
set_option linter.unusedSimpArgs false
def VDist (m : Names) : Prop := m.Pairwise (fun p q => p.2 ≠ q.2)
theorem ba_eq {a b : ByteArray} (h : a.data.toList = b.data.toList) : a = b := by
  apply ByteArray.ext
  exact Array.toList_inj.1 h
theorem pair_unique {α β : Type} {f : α → β} : ∀ {l : List α}, l.Pairwise (fun p q => f p ≠ f q) → ∀ {p q : α}, p ∈ l → q ∈ l → f p = f q → p = q
  | y :: l, h, p, q, hp, hq, e => by
    obtain ⟨h1, h2⟩ := List.pairwise_cons.1 h
    rcases List.mem_cons.1 hp with e1 | hp1 <;> rcases List.mem_cons.1 hq with e2 | hq1
    · rw [e1, e2]
    · exact absurd (e1 ▸ e) (h1 q hq1)
    · exact absurd (e2 ▸ e.symm) (h1 p hp1)
    · exact pair_unique h2 hp1 hq1 e
theorem getN_mem2 {m : Names} {s : ByteArray} {c : Int} (h : getN m s = some c) : (s, c) ∈ m := by
  unfold getN at h
  cases e : m.find? (isK s) with
  | none => rw [e] at h; cases h
  | some p =>
    rw [e] at h
    injection h with h
    have h1 := List.find?_some e
    have h2 := List.mem_of_find?_eq_some e
    obtain ⟨a, c'⟩ := p
    have h3 : a = s := ba_eq (isK_iff.1 h1)
    subst h3
    simp only at h
    subst h
    exact h2
def FillOk (m : Names) (left : Lit → Bool) (l : Nums) : Prop := ∀ i nm, (i, nm) ∈ l ↔ ((nm, i) ∈ m ∧ left (.string nm.data.toList) = false)
theorem fill_start (m : Names) : FillOk m (Maps.has (mapD m)) [] := fun i nm => by
  simp only [List.not_mem_nil, false_iff, not_and]
  intro h
  rw [has_mapD]
  unfold getN
  have : (m.find? (isK nm)).isSome = true := by rw [List.find?_isSome]; exact ⟨_, h, isK_iff.2 rfl⟩
  rw [Option.isSome_map, this]; decide
theorem fill_step {m : Names} {left : Lit → Bool} {l : Nums} {s : ByteArray} {c : Int} (hd : Dist m) (hv : VDist m) (h : FillOk m left l) (hg : getN m s = some c) (hl : left (.string s.data.toList) = true) : FillOk m (fun z => left z && !z.sameKey (.string s.data.toList)) (putI l c s) := fun i nm => by
  have hm := getN_mem2 hg
  have hsk : (Lit.string nm.data.toList).sameKey (.string s.data.toList) = (nm.data.toList == s.data.toList) := rfl
  show _ ↔ (_ ∧ (left (.string nm.data.toList) && !(Lit.string nm.data.toList).sameKey (.string s.data.toList)) = false)
  rw [putI_mem, h i nm, hsk]
  constructor
  · rintro (e | ⟨⟨e1, e2⟩, e3⟩)
    · injection e with e1 e2
      subst e1 e2
      exact ⟨hm, by simp⟩
    · exact ⟨e1, by rw [e2]; rfl⟩
  · rintro ⟨e1, e2⟩
    by_cases e : nm.data.toList = s.data.toList
    · have := ba_eq e
      subst this
      left
      have h2 := pair_unique (f := fun p : ByteArray × Int => p.1.data.toList) hd e1 hm rfl
      injection h2 with _ h2
      rw [h2]
    · right
      have hf : left (.string nm.data.toList) = false := by
        rw [beq_eq_false_iff_ne.2 e] at e2
        simpa using e2
      refine ⟨⟨e1, hf⟩, fun hic => ?_⟩
      simp only at hic
      have h2 := pair_unique (f := fun p : ByteArray × Int => p.2) hv e1 hm hic
      injection h2 with h2 _
      rw [h2, hl] at hf
      cases hf
theorem fill_end {m : Names} {left : Lit → Bool} {l : Nums} (h : FillOk m left l) (hl : ∀ k, left k = false) : ∀ i nm, (i, nm) ∈ l ↔ (nm, i) ∈ m := fun i nm => by
  rw [h i nm, hl]; simp
theorem int_sort_perm {l l' : List Int} (h : l.Perm l') : l.mergeSort (fun x y => decide (x ≤ y)) = l'.mergeSort (fun x y => decide (x ≤ y)) := by
  have tr : ∀ a b c : Int, decide (a ≤ b) = true → decide (b ≤ c) = true → decide (a ≤ c) = true := fun a b c h1 h2 => by simp only [decide_eq_true_eq] at *; omega
  have tot : ∀ a b : Int, (decide (a ≤ b) || decide (b ≤ a)) = true := fun a b => by simp only [Bool.or_eq_true, decide_eq_true_eq]; omega
  refine List.Perm.eq_of_pairwise (le := fun a b => decide (a ≤ b) = true) (fun a b _ _ h1 h2 => by simp only [decide_eq_true_eq] at h1 h2; omega) (List.pairwise_mergeSort tr tot l) (List.pairwise_mergeSort tr tot l') ?_
  exact (List.mergeSort_perm l _).trans (h.trans (List.mergeSort_perm l' _).symm)
theorem nums_eq {m : Names} {l : Nums} (hr : l.Pairwise (fun p q => p.1 < q.1)) (hv : VDist m) (h : ∀ i nm, (i, nm) ∈ l ↔ (nm, i) ∈ m) {ss : List Int} (hp : ss.Perm (l.map (·.1))) : ss.mergeSort (fun x y => decide (x ≤ y)) = numsOf m := by
  unfold numsOf
  refine int_sort_perm (hp.trans ?_)
  have n1 : (l.map (·.1)).Nodup := List.Pairwise.map (R := fun p q : Int × ByteArray => p.1 < q.1) _ (fun a b hab => by omega) hr
  have n2 : (m.map (·.2)).Nodup := List.Pairwise.map (R := fun p q : ByteArray × Int => p.2 ≠ q.2) _ (fun a b hab => hab) hv
  rw [List.perm_ext_iff_of_nodup n1 n2]
  intro i
  simp only [List.mem_map]
  constructor
  · rintro ⟨⟨j, nm⟩, hj, rfl⟩
    exact ⟨(nm, j), (h j nm).1 hj, rfl⟩
  · rintro ⟨⟨nm, j⟩, hj, rfl⟩
    exact ⟨(j, nm), (h j nm).2 hj, rfl⟩
theorem nums_mem {m : Names} {i : Int} : i ∈ numsOf m ↔ ∃ nm, (nm, i) ∈ m := by
  unfold numsOf
  rw [(List.mergeSort_perm _ _).mem_iff]
  simp only [List.mem_map]
  constructor
  · rintro ⟨⟨nm, j⟩, hj, rfl⟩; exact ⟨nm, hj⟩
  · rintro ⟨nm, hj⟩; exact ⟨(nm, i), hj, rfl⟩
theorem nameOf_eq {m : Names} (hv : VDist m) {nm : ByteArray} {i : Int} (h : (nm, i) ∈ m) : nameOf m i = nm := by
  unfold nameOf
  cases e : m.find? (fun p => p.2 == i) with
  | none =>
    have := List.find?_eq_none.1 e (nm, i) h
    simp at this
  | some p =>
    have h1 := List.find?_some e
    have h2 := List.mem_of_find?_eq_some e
    have h3 := pair_unique (f := fun p : ByteArray × Int => p.2) hv h2 h (by simpa using h1)
    rw [h3]; rfl
theorem MapAt.keys_le {w : World} {g : Nat} {m : Names} (h : MapAt w g m) : ∀ p ∈ m, p.1.size ≤ maxLen := fun p hp => by
  have := strKeys_le h Try.underlying9 p.1.data.toList (by rw [strKeys_mapD]; exact List.mem_map.2 ⟨p, hp, rfl⟩)
  rw [Array.length_toList] at this
  exact this
theorem length_done (m : Names) (pm : PM) : (doneN pm m).length ≤ m.length + 1 := by
  unfold doneN
  have h1 := length_del m pm.src
  have h2 := length_put (delN m pm.src) pm.dst pm.file
  by_cases h : pm.dst.data.toList = []
  · rw [if_pos h]; omega
  · rw [if_neg h]; omega
theorem length_dones : ∀ (ms : List PM) (m : Names), (ms.foldl (fun n m => doneN m n) m).length ≤ m.length + ms.length
  | [], m => Nat.le_refl _
  | p :: r, m => by
    have h1 := length_dones r (doneN p m)
    have h2 := length_done m p
    rw [List.foldl_cons, List.length_cons]; omega
/-- What a crash leans on. -/
structure CrashOk (S : PD) (dir : Int) : Prop where
  room : 0 ≤ S.room ∧ S.room ≤ 9223372036854775807
  base : S.base.length ≤ 1000000
  moves : S.moves.length ≤ 1000000
  files : S.files.length ≤ 1000000
  mv : ∀ m ∈ S.moves, PMok m
  ch : ∀ f ∈ S.files, chOk f.ch f.base.size ∧ f.base.size ≤ 1000000 ∧ f.ch.length ≤ 1000000 ∧ ∀ q ∈ f.ch, q.1.size ≤ 1000000
  idx : ∀ p ∈ keptN S dir, 0 ≤ p.2 ∧ p.2 < (S.files.length : Int)
  vd : VDist (keptN S dir)
end Go.Proofs.Ytolbicncdookmaa.XDsk
