/- SwapNames: which names are taken, and what a write leaves. Conditions: lengths. -/
import Derived.Test.YtolbicncdookmaaSwpShown

namespace Go.Proofs.Ytolbicncdookmaa.XDsk
open Go Go.RowKit Go.Maps Go.Sort Go.Shelf Go.Proofs.YtolbicncdookmaaW.PrintWords Go.Proofs.YtolbicncdookmaaW.PrintLast Go.Proofs.YtolbicncdookmaaW.PrintMore Go.Proofs.Ytolbicncdookmaa.Num
set_option linter.unusedVariables false
set_option linter.unusedSimpArgs false
theorem ba_size (s : ByteArray) : s.size = s.data.toList.length := by rw [Array.length_toList]; rfl
theorem fits_named {nm : ByteArray} (h : fitsB nm = true) : namedB nm = true ∧ namedB (tmpN nm) = true := by
  unfold fitsB at h
  simp only [Bool.and_eq_true, decide_eq_true_eq] at h
  obtain ⟨⟨⟨ha, h1⟩, h2⟩, _⟩ := h
  have hs := tmp_size nm
  refine ⟨?_, ?_⟩
  · unfold namedB
    simp only [Bool.and_eq_true, decide_eq_true_eq]
    exact ⟨⟨ha, h1⟩, by omega⟩
  · unfold namedB
    simp only [Bool.and_eq_true, decide_eq_true_eq]
    refine ⟨⟨?_, by omega⟩, by omega⟩
    rw [tmp_list, List.all_append]
    simp only [Bool.and_eq_true]
    exact ⟨ha, by decide⟩
theorem tmp_last (nm : ByteArray) : (tmpN nm).data.toList.getLast? = some 126 := by rw [tmp_list]; simp
theorem tmp_ne {nm q : ByteArray} (h : q.data.toList.getLast? ≠ some 126) : tmpN nm ≠ q := fun e => h (by rw [← e]; exact tmp_last nm)
theorem perm_del {K : Names} {s : ByteArray} {i : Int} (h : Up K) (hg : getN K s = some i) : K.Perm ((s, i) :: delN K s) := by
  have hm := (get_iff (up_dist h)).1 hg
  refine (List.perm_ext_iff_of_nodup ?_ ?_).2 (fun p => ?_)
  · exact (up_dist h).imp (fun {a b} hab e => hab (by rw [e]))
  · refine List.nodup_cons.2 ⟨fun hx => (mem_del.1 hx).2 rfl, ?_⟩
    exact ((up_dist (up_del h s))).imp (fun {a b} hab e => hab (by rw [e]))
  · rw [List.mem_cons, mem_del]
    constructor
    · intro hx
      by_cases e : p.1 = s
      · left
        obtain ⟨a, j⟩ := p
        simp only at e
        subst e
        have := (get_iff (up_dist h)).2 hx
        rw [hg] at this
        injection this with this
        rw [this]
      · exact .inr ⟨hx, e⟩
    · rintro (e | ⟨hx, _⟩)
      · rw [e]; exact hm
      · exact hx
theorem len_put {K : Names} {s : ByteArray} {i : Int} (h : getN K s = none) : (putN K s i).length = K.length + 1 := by
  unfold putN
  rw [length_ins, del_none h]
theorem len_del {K : Names} {s : ByteArray} {i : Int} (h : Up K) (hg : getN K s = some i) : (delN K s).length + 1 = K.length := by
  have := (perm_del h hg).length_eq
  rw [List.length_cons] at this
  omega
theorem len_put2 {K : Names} {s : ByteArray} {i j : Int} (h : Up K) (hg : getN K s = some j) : (putN K s i).length = K.length := by
  unfold putN
  rw [length_ins]
  exact len_del h hg
/-- The names behind a write of a new name. -/
theorem swN_facts {ns : Names} {t nm : ByteArray} {i : Int} (hup : Up ns) (ht : t.data.toList ≠ []) (hn : nm.data.toList ≠ []) (hemp : getN ns ByteArray.empty = none) (hno : getN ns t = none) (htn : nm ≠ t) :
    getN (swN ns t nm i) nm = some i ∧ (∀ q, q ≠ nm → getN (swN ns t nm i) q = getN ns q) ∧ (getN ns nm = none → (swN ns t nm i).length = ns.length + 1) ∧ (∀ j, getN ns nm = some j → (swN ns t nm i).length = ns.length) ∧ Up (swN ns t nm i) := by
  have e : swN ns t nm i = putN (delN (putN ns t i) t) nm i := by
    unfold swN
    rw [done_put hn, done_put ht, del_none hemp]
  have u1 := up_put hup t i
  have u2 := up_del u1 t
  rw [e]
  have hq : ∀ q, getN (delN (putN ns t i) t) q = getN ns q := fun q => by
    by_cases eq : q = t
    · subst eq; rw [get_del_self u1, hno]
    · rw [get_del_ne u1 eq, get_put_ne hup eq]
  have hl : (delN (putN ns t i) t).length = ns.length := by
    have h1 := len_del u1 (get_put_self (i := i) hup (s := t))
    rw [len_put hno] at h1
    omega
  refine ⟨get_put_self u2, fun q hqn => by rw [get_put_ne u2 hqn, hq], fun h0 => ?_, fun j hj => ?_, up_put u2 _ _⟩
  · rw [len_put (by rw [hq]; exact h0), hl]
  · rw [len_put2 u2 (by rw [hq]; exact hj), hl]
def nOt : ByteArray := ⟨#[111, 116, 104, 101, 114]⟩
/-- The disk with one other file. -/
def otD : PD := pl 1000 [⟨ByteArray.empty, xX, [(xX, -1)]⟩] [(nOt, 0)] [] [⟨ByteArray.empty, nOt, 0⟩] 2
theorem ot1 : createE (newD 1000) nOt = 0 := by decide
theorem ot2 : appendE (createS (newD 1000) nOt) nOt xX = 0 ∧ appendS (createS (newD 1000) nOt) nOt xX = otD := by
  have c := pl_create (room := 1000) (o := 0) (fs := []) (ns := []) (bs := []) (ms := []) (nm := nOt) (by decide) (by decide)
  have a := pl_append (room := 1000) (o := 1) (i := 0) (fs := [⟨ByteArray.empty, ByteArray.empty, []⟩]) (ns := [(nOt, 0)]) (bs := []) (ms := [⟨ByteArray.empty, nOt, 0⟩]) (nm := nOt) (x := xX) (by decide) (by decide)
  have e1 : createS (newD 1000) nOt = pl 1000 [⟨ByteArray.empty, ByteArray.empty, []⟩] [(nOt, 0)] [] [⟨ByteArray.empty, nOt, 0⟩] 1 := c.2.trans rfl
  rw [e1]
  refine ⟨a.1, a.2.trans ?_⟩
  show pl 1000 [⟨ByteArray.empty, ByteArray.empty ++ xX, [(xX, -1)]⟩] _ _ _ _ = _
  rw [emp_app2]; rfl
theorem otG : Good 10 otD := by
  have := ((Good.new (room := 1000) (by decide)).create nOt (by decide)).append nOt xX
  rw [ot2.2] at this
  exact this.mono (by decide)
theorem ot_write (nm x : ByteArray) (hx : x.size ≤ 400) (hne : nm ≠ nOt) :
    (fitsB nm = true → writeE otD nm x = 0 ∧ ∃ S, writeS otD nm x = S ∧ S.ops = 8 ∧ findE S nm = 0 ∧ readV S nm = x ∧ findE S nOt = 0 ∧ readV S nOt = xX ∧ (keysN S.names).length = 2) ∧
    (fitsB nm = false → writeE otD nm x = 3 ∧ writeS otD nm x = otD) := by
  refine ⟨fun hf => ?_, fun hf => ?_⟩
  · obtain ⟨h1, h2⟩ := fits_named hf
    have hto : tmpN nm ≠ nOt := tmp_ne (by decide)
    have hgt : ∀ q, q ≠ nOt → getN ([(nOt, 0)] : Names) q = none := fun q hq => by
      cases e : getN ([(nOt, 0)] : Names) q with
      | none => rfl
      | some j =>
        have := getN_mem2 e
        simp at this
        exact absurd this.1 hq
    have hw := write_pl (x := x) (show Good 10 (pl 1000 [⟨ByteArray.empty, xX, [(xX, -1)]⟩] [(nOt, 0)] [] [⟨ByteArray.empty, nOt, 0⟩] 2) from otG) hf h2 h1 (hgt _ hto) (by decide) (by show ((1 : Int) + 0) + _ ≤ _; omega)
    have hup : Up ([(nOt, 0)] : Names) := otG.names.up
    have hnt : nm ≠ tmpN nm := fun e => by
      have := congrArg ByteArray.size e
      rw [tmp_size] at this
      omega
    obtain ⟨f1, f2, f3, _, _⟩ := swN_facts (i := 1) hup (named_list h2) (named_list h1) (by decide) (hgt _ hto) hnt
    refine ⟨hw.1, _, hw.2, rfl, pl_find f1, (pl_read f1).trans rfl, ?_, ?_, ?_⟩
    · exact pl_find (i := 0) ((f2 nOt (Ne.symm hne)).trans (by decide))
    · exact (pl_read (i := 0) ((f2 nOt (Ne.symm hne)).trans (by decide))).trans rfl
    · show (keysN (swN [(nOt, 0)] (tmpN nm) nm 1)).length = 2
      unfold keysN
      rw [List.length_map, f3 (hgt _ hne)]; rfl
  · unfold writeE writeS
    rw [if_pos hf, if_pos hf]
    exact ⟨rfl, rfl⟩
end Go.Proofs.Ytolbicncdookmaa.XDsk
