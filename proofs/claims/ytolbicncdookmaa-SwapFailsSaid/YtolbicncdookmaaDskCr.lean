/- What is there when the power went: each name that is left, and its file's bytes behind so many moments. Conditions: the names are right. -/
import Derived.Test.YtolbicncdookmaaDskGood

namespace Go.Proofs.Ytolbicncdookmaa.XDsk
open Go Go.RowKit Go.Maps Go.Sort Go.Shelf Go.Proofs.YtolbicncdookmaaW.PrintWords Go.Proofs.YtolbicncdookmaaW.PrintLast Go.Proofs.YtolbicncdookmaaW.PrintMore Go.Proofs.Ytolbicncdookmaa.Num
set_option linter.unusedVariables false
set_option linter.unusedSimpArgs false
variable {S : PD} {ks : List Int} {K : Names} {dir : Int} {c nf : Nat}
def crF (S : PD) (ks : List Int) (i : Int) : PF := ⟨atF (fileOf S i) (momentsOf ks i), atF (fileOf S i) (momentsOf ks i), []⟩
/-- So many numbers are done. -/
structure CrI (S : PD) (ks : List Int) (K : Names) (xs : List Int) (o : PD) : Prop where
  files : o.files = xs.map (crF S ks)
  names : ∀ p, p ∈ o.names ↔ ∃ j, ∃ h : j < xs.length, p = (nameOf K xs[j], (j : Int))
  up : Up o.names
theorem CrI.step {xs : List Int} {o : PD} {x : Int} (h : CrI S ks K xs o) (hx : ∀ y ∈ xs, nameOf K y ≠ nameOf K x) : CrI S ks K (xs ++ [x]) (crashStep S ks K o x) := by
  have hlen : o.files.length = xs.length := by rw [h.files, List.length_map]
  refine ⟨?_, fun p => ?_, up_put h.up _ _⟩
  · show o.files ++ [_] = _
    rw [h.files, List.map_append]; rfl
  · show p ∈ putN o.names (nameOf K x) (o.files.length : Int) ↔ _
    rw [mem_put, hlen, h.names]
    constructor
    · rintro (rfl | ⟨⟨j, hj, rfl⟩, _⟩)
      · exact ⟨xs.length, by simp, by simp⟩
      · exact ⟨j, by simp; omega, by rw [List.getElem_append_left hj]⟩
    · rintro ⟨j, hj, rfl⟩
      rcases Nat.lt_or_ge j xs.length with e | e
      · right
        rw [List.getElem_append_left e]
        exact ⟨⟨j, e, rfl⟩, hx _ (List.getElem_mem e)⟩
      · left
        have : j = xs.length := by simp at hj; omega
        subst this
        simp
theorem CrI.all : ∀ (ys xs : List Int) (o : PD), CrI S ks K xs o → (xs ++ ys).Pairwise (fun a b => nameOf K a ≠ nameOf K b) → CrI S ks K (xs ++ ys) (ys.foldl (crashStep S ks K) o)
  | [], xs, o, h, _ => by rw [List.append_nil]; exact h
  | y :: r, xs, o, h, hp => by
    have e : xs ++ y :: r = (xs ++ [y]) ++ r := by simp
    rw [e] at hp ⊢
    refine CrI.all r (xs ++ [y]) _ (h.step (fun z hz => ?_)) hp
    have h1 := (List.pairwise_append.1 hp).1
    exact (List.pairwise_append.1 h1).2.2 z hz y (by simp)
theorem nums_pairwise (hk : KOk c nf K) : (numsOf K).Pairwise (fun a b => nameOf K a ≠ nameOf K b) := by
  have n2 : (K.map (·.2)).Nodup := List.Pairwise.map (R := fun p q : ByteArray × Int => p.2 ≠ q.2) _ (fun a b hab => hab) hk.vd
  have hnd : (numsOf K).Nodup := (List.mergeSort_perm _ _).nodup_iff.2 n2
  refine List.Pairwise.imp_of_mem ?_ hnd
  intro a b ha hb hab e
  obtain ⟨x, hx⟩ := nums_mem.1 ha
  obtain ⟨y, hy⟩ := nums_mem.1 hb
  rw [nameOf_eq hk.vd hx, nameOf_eq hk.vd hy] at e
  subst e
  have := pair_unique (f := fun p : ByteArray × Int => p.1.data.toList) (up_dist hk.up) hx hy rfl
  injection this with _ this
  exact hab this
theorem crash_inv (hk : KOk c nf (keptN S dir)) : CrI S ks (keptN S dir) (numsOf (keptN S dir)) (crashFill S dir ks) := by
  have h0 : CrI S ks (keptN S dir) [] (newD S.room) := ⟨rfl, fun p => ⟨(fun h => by cases h), (fun h => by obtain ⟨j, hj, _⟩ := h; cases hj)⟩, List.Pairwise.nil⟩
  have := CrI.all (numsOf (keptN S dir)) [] (newD S.room) h0 (nums_pairwise hk)
  exact this
theorem crash_fix : (crashD S dir ks).room = max S.room 0 ∧ (crashD S dir ks).ops = 0 ∧ (crashD S dir ks).fail = 0 ∧ (crashD S dir ks).left = -1 ∧ (crashD S dir ks).moves = [] := by
  have fixd : ∀ (xs : List Int) (o : PD), (xs.foldl (crashStep S ks (keptN S dir)) o).room = o.room ∧ (xs.foldl (crashStep S ks (keptN S dir)) o).ops = o.ops ∧ (xs.foldl (crashStep S ks (keptN S dir)) o).fail = o.fail ∧ (xs.foldl (crashStep S ks (keptN S dir)) o).left = o.left ∧ (xs.foldl (crashStep S ks (keptN S dir)) o).moves = o.moves := fun xs => by
    induction xs with
    | nil => intro o; exact ⟨rfl, rfl, rfl, rfl, rfl⟩
    | cons x r ih => intro o; exact ih (crashStep S ks (keptN S dir) o x)
  exact fixd (numsOf (keptN S dir)) (newD S.room)
theorem crash_some (hk : KOk c nf (keptN S dir)) {name : ByteArray} {i : Int} (hg : getN (keptN S dir) name = some i) : ∃ j, getN (crashD S dir ks).names name = some j ∧ nowOf (crashD S dir ks) j = atF (fileOf S i) (momentsOf ks i) := by
  have hI := crash_inv (ks := ks) hk
  have hm := getN_mem2 hg
  have hi : i ∈ numsOf (keptN S dir) := nums_mem.2 ⟨name, hm⟩
  obtain ⟨j, hj, rfl⟩ := List.mem_iff_getElem.1 hi
  refine ⟨(j : Int), ?_, ?_⟩
  · show getN (crashFill S dir ks).names name = some (j : Int)
    rw [get_iff (up_dist hI.up), hI.names]
    exact ⟨j, hj, by rw [nameOf_eq hk.vd hm]⟩
  · unfold nowOf
    show (match (crashFill S dir ks).files[(j : Int).toNat]? with | some f => f.now | none => ByteArray.empty) = _
    rw [hI.files, Int.toNat_natCast, List.getElem?_map, List.getElem?_eq_getElem hj]
    rfl
theorem crash_none (hk : KOk c nf (keptN S dir)) {name : ByteArray} (hg : getN (keptN S dir) name = none) : getN (crashD S dir ks).names name = none := by
  have hI := crash_inv (ks := ks) hk
  cases e : getN (crashD S dir ks).names name with
  | none => rfl
  | some j =>
    have hm : (name, j) ∈ (crashFill S dir ks).names := getN_mem2 e
    obtain ⟨q, hq, e2⟩ := (hI.names _).1 hm
    injection e2 with e2 e3
    obtain ⟨nm, hnm⟩ := nums_mem.1 (List.getElem_mem hq)
    rw [nameOf_eq hk.vd hnm] at e2
    subst e2
    rw [(get_iff (up_dist hk.up)).2 hnm] at hg
    cases hg
theorem crash_find (hk : KOk c nf (keptN S dir)) (name : ByteArray) : findE (crashD S dir ks) name = match getN (keptN S dir) name with | none => 5 | some _ => 0 := by
  unfold findE
  rw [crash_fix.2.2.2.1, if_neg (by decide)]
  cases e : getN (keptN S dir) name with
  | none => rw [crash_none hk e]
  | some i => obtain ⟨j, h1, _⟩ := crash_some (ks := ks) hk e; rw [h1]
theorem crash_read (hk : KOk c nf (keptN S dir)) (name : ByteArray) : readV (crashD S dir ks) name = match getN (keptN S dir) name with | none => ByteArray.empty | some i => atF (fileOf S i) (momentsOf ks i) := by
  cases e : getN (keptN S dir) name with
  | none =>
    have h1 := crash_find (ks := ks) hk name
    rw [e] at h1
    exact readV_not (by rw [h1]; decide)
  | some i =>
    have h1 := crash_find (ks := ks) hk name
    rw [e] at h1
    obtain ⟨j, h2, h3⟩ := crash_some (ks := ks) hk e
    rw [readV_zero h1]
    unfold numN
    rw [h2]
    exact h3
/-- The names that are left are those, and no others. -/
theorem up_ext {K K' : List ByteArray} (h : K.Pairwise (fun p q => bytesBefore p.data.toList q.data.toList = true)) (h' : K'.Pairwise (fun p q => bytesBefore p.data.toList q.data.toList = true)) (he : ∀ s, s ∈ K ↔ s ∈ K') : K = K' := by
  have n1 : K.Nodup := h.imp (fun {a b} hab e => by rw [e, WideAt.bytes_irrefl] at hab; cases hab)
  have n2 : K'.Nodup := h'.imp (fun {a b} hab e => by rw [e, WideAt.bytes_irrefl] at hab; cases hab)
  refine List.Perm.eq_of_pairwise (le := fun p q => bytesBefore p.data.toList q.data.toList = true) (fun a b _ _ h1 h2 => ?_) h h' ((List.perm_ext_iff_of_nodup n1 n2).2 he)
  have := WideShapes.bytes_trans _ _ _ h1 h2
  rw [WideAt.bytes_irrefl] at this
  cases this
theorem up_keys {K : Names} (h : Up K) : (keysN K).Pairwise (fun p q => bytesBefore p.data.toList q.data.toList = true) := by
  unfold keysN
  rw [List.pairwise_map]
  exact h
theorem mem_keys {K : Names} {s : ByteArray} : s ∈ keysN K ↔ ∃ i, (s, i) ∈ K := by
  unfold keysN
  rw [List.mem_map]
  constructor
  · rintro ⟨⟨a, i⟩, h, rfl⟩; exact ⟨i, h⟩
  · rintro ⟨i, h⟩; exact ⟨(s, i), h, rfl⟩
theorem crash_keys (hk : KOk c nf (keptN S dir)) : keysN (crashD S dir ks).names = keysN (keptN S dir) := by
  have hI := crash_inv (ks := ks) hk
  refine up_ext (up_keys (show Up (crashD S dir ks).names from hI.up)) (up_keys hk.up) (fun s => ?_)
  rw [mem_keys, mem_keys]
  constructor
  · rintro ⟨j, hj⟩
    obtain ⟨q, hq, e2⟩ := (hI.names _).1 hj
    injection e2 with e2 e3
    obtain ⟨nm, hnm⟩ := nums_mem.1 (List.getElem_mem hq)
    rw [nameOf_eq hk.vd hnm] at e2
    subst e2
    exact ⟨_, hnm⟩
  · rintro ⟨i, hi⟩
    have hn : i ∈ numsOf (keptN S dir) := nums_mem.2 ⟨s, hi⟩
    obtain ⟨j, hj, rfl⟩ := List.mem_iff_getElem.1 hn
    exact ⟨(j : Int), (hI.names _).2 ⟨j, hj, by rw [nameOf_eq hk.vd hi]⟩⟩
end Go.Proofs.Ytolbicncdookmaa.XDsk
