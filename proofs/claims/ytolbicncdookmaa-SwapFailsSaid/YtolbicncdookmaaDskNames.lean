/- Names put and struck: what is found behind it, and the bytes in use. Conditions: the names stand in order. -/
import Derived.Test.YtolbicncdookmaaDskMany
import Derived.Test.YtolbicncdookmaaDskPlain

namespace Go.Proofs.Ytolbicncdookmaa.XDsk
open Go Go.RowKit Go.Maps Go.Sort Go.Shelf Go.Proofs.YtolbicncdookmaaW.PrintWords Go.Proofs.YtolbicncdookmaaW.PrintLast Go.Proofs.YtolbicncdookmaaW.PrintMore Go.Proofs.Ytolbicncdookmaa.Num
set_option linter.unusedVariables false
set_option linter.unusedSimpArgs false
variable {K : Names} {s q : ByteArray} {i : Int} {S S' : PD}
theorem del_none (h : getN K s = none) : delN K s = K := by
  unfold delN
  rw [List.filter_eq_self]
  intro p hp
  have h2 : K.find? (isK s) = none := by
    unfold getN at h
    cases e : K.find? (isK s) with
    | none => rfl
    | some y => rw [e] at h; cases h
  have h3 := List.find?_eq_none.1 h2 p hp
  simpa using h3
theorem get_put_self (h : Up K) : getN (putN K s i) s = some i := (get_iff (up_dist (up_put h s i))).2 (mem_put.2 (.inl rfl))
theorem opt_ext {a b : Option Int} (h : ∀ j, a = some j ↔ b = some j) : a = b := by
  cases a with
  | none => cases b with
    | none => rfl
    | some j => exact absurd ((h j).2 rfl) (by simp)
  | some j => exact ((h j).1 rfl).symm
theorem get_put_ne (h : Up K) (hn : q ≠ s) : getN (putN K s i) q = getN K q := opt_ext (fun j => by
  rw [get_iff (up_dist (up_put h s i)), get_iff (up_dist h), mem_put]
  constructor
  · rintro (e | ⟨hm, _⟩)
    · injection e with e; exact absurd e hn
    · exact hm
  · intro hm; exact .inr ⟨hm, hn⟩)
theorem get_del_self (h : Up K) : getN (delN K s) s = none := by
  cases e : getN (delN K s) s with
  | none => rfl
  | some j => exact absurd rfl (mem_del.1 ((get_iff (up_dist (up_del h s))).1 e)).2
theorem get_del_ne (h : Up K) (hn : q ≠ s) : getN (delN K s) q = getN K q := opt_ext (fun j => by
  rw [get_iff (up_dist (up_del h s)), get_iff (up_dist h), mem_del]
  exact ⟨fun hm => hm.1, fun hm => ⟨hm, hn⟩⟩)
theorem sum_perm {l l' : List Int} (h : l.Perm l') : l.sum = l'.sum := by
  induction h with
  | nil => rfl
  | cons x _ ih => rw [List.sum_cons, List.sum_cons, ih]
  | swap x y l => rw [List.sum_cons, List.sum_cons, List.sum_cons, List.sum_cons]; omega
  | trans _ _ h1 h2 => rw [h1, h2]
theorem used_perm {K K' : Names} (h : K.Perm K') : usedN S K = usedN S K' := by
  unfold usedN
  exact sum_perm (h.map _)
theorem used_put (h : getN K s = none) : usedN S (putN K s i) = ((nowOf S i).size : Int) + usedN S K := by
  unfold putN
  rw [del_none h, used_perm (ins_perm (s, i) K), usedN_cons]
theorem used_congr {S S' : PD} : ∀ {K : Names}, (∀ p ∈ K, nowOf S p.2 = nowOf S' p.2) → usedN S K = usedN S' K
  | [], _ => rfl
  | p :: r, h => by
    rw [usedN_cons, usedN_cons, h p (List.mem_cons_self ..), used_congr (fun x hx => h x (List.mem_cons_of_mem _ hx))]
theorem used_del (h : Up K) (hg : getN K s = some i) : usedN S K = ((nowOf S i).size : Int) + usedN S (delN K s) := by
  have hm := (get_iff (up_dist h)).1 hg
  have hp : K.Perm ((s, i) :: delN K s) := by
    refine (List.perm_ext_iff_of_nodup ?_ ?_).2 (fun p => ?_)
    · exact (up_dist h).imp (fun {a b} hab e => hab (by rw [e]))
    · refine List.nodup_cons.2 ⟨fun hx => (mem_del.1 hx).2 rfl, ?_⟩
      exact ((up_dist (up_del h s))).imp (fun {a b} hab e => hab (by rw [e]))
    · rw [List.mem_cons, mem_del]
      constructor
      · intro hx
        by_cases e : p.1 = s
        · left
          obtain ⟨a, j⟩ := p
          simp only at e
          subst e
          have := (get_iff (up_dist h)).2 hx
          rw [hg] at this
          injection this with this
          rw [this]
        · exact .inr ⟨hx, e⟩
      · rintro (e | ⟨hx, _⟩)
        · rw [e]; exact hm
        · exact hx
  rw [used_perm hp, usedN_cons]
theorem now_app {fs : List PF} {f : PF} {room o : Int} {ns bs ns' bs' : Names} {ms ms' : List PM} {o' : Int} {j : Int} (h : j.toNat < fs.length) : nowOf (pl room (fs ++ [f]) ns bs ms o) j = nowOf (pl room fs ns' bs' ms' o') j := by
  unfold nowOf
  show (match (fs ++ [f])[j.toNat]? with | some f => f.now | none => ByteArray.empty) = (match fs[j.toNat]? with | some f => f.now | none => ByteArray.empty)
  rw [List.getElem?_append_left h]
end Go.Proofs.Ytolbicncdookmaa.XDsk
