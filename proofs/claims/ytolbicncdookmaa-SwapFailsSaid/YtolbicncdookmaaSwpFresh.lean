/- swap.Write on a disk of power, where the text's other name is not there: all goes. Conditions: the disk is right; there is room. -/
import Derived.Test.YtolbicncdookmaaSwpPure
import Derived.Test.YtolbicncdookmaaDskNames

namespace Go.Proofs.Ytolbicncdookmaa.XDsk
open Go Go.RowKit Go.Maps Go.Sort Go.Shelf Go.Proofs.YtolbicncdookmaaW.PrintWords Go.Proofs.YtolbicncdookmaaW.PrintLast Go.Proofs.YtolbicncdookmaaW.PrintMore Go.Proofs.Ytolbicncdookmaa.Num
set_option linter.unusedVariables false
set_option linter.unusedSimpArgs false
variable {room o : Int} {fs : List PF} {ns bs : Names} {ms : List PM} {nm t x : ByteArray} {c : Nat}
theorem mod_last (fs : List PF) (f : PF) (g : PF → PF) : (fs ++ [f]).modify fs.length g = fs ++ [g f] := by
  apply List.ext_getElem?
  intro j
  rw [List.getElem?_modify]
  rcases Nat.lt_trichotomy j fs.length with h | h | h
  · rw [List.getElem?_append_left h, List.getElem?_append_left h]; simp [Nat.ne_of_gt h]
  · subst h; simp
  · rw [List.getElem?_append_right (by omega), List.getElem?_append_right (by omega)]
    have e1 : [f][j - fs.length]? = none := by rw [List.getElem?_eq_none]; simp; omega
    have e2 : [g f][j - fs.length]? = none := by rw [List.getElem?_eq_none]; simp; omega
    rw [e1, e2]; rfl
/-- The names behind the write. -/
def swN (ns : Names) (t nm : ByteArray) (i : Int) : Names := doneN ⟨t, nm, i⟩ (doneN ⟨ByteArray.empty, t, i⟩ ns)
theorem emp_app2 (s : ByteArray) : ByteArray.empty ++ s = s := by
  apply ByteArray.ext
  rw [ByteArray.data_append]
  exact Array.empty_append
theorem done_put {K : Names} {src dst : ByteArray} {i : Int} (h : dst.data.toList ≠ []) : doneN ⟨src, dst, i⟩ K = putN (delN K src) dst i := by
  unfold doneN
  rw [if_neg h]
theorem named_list (h : namedB nm = true) : nm.data.toList ≠ [] := by
  have := (named_ne h).1
  intro e
  have h2 : nm.size = nm.data.toList.length := by rw [Array.length_toList]; rfl
  rw [e] at h2
  have h3 : nm.size = 0 := h2
  omega
theorem write_pl (g : Good c (pl room fs ns bs ms o)) (hf : fitsB nm = true) (ht : namedB (tmpN nm) = true) (hn : namedB nm = true) (hno : getN ns (tmpN nm) = none) (hemp : getN ns ByteArray.empty = none) (hu : usedD (pl room fs ns bs ms o) + (x.size : Int) ≤ room) :
    writeE (pl room fs ns bs ms o) nm x = 0 ∧ writeS (pl room fs ns bs ms o) nm x = pl room (fs ++ [⟨x, x, []⟩]) (swN ns (tmpN nm) nm (fs.length : Int)) (swN ns (tmpN nm) nm (fs.length : Int)) [] (o + 6) := by
  have hup : Up ns := g.names.up
  have hidx := g.names.idx
  unfold writeE writeS
  have hff : ¬ (fitsB nm = false) := by rw [hf]; decide
  rw [if_neg hff, if_neg hff]
  generalize tmpN nm = t at *
  have r1 : removeE (pl room fs ns bs ms o) t = 5 := (pl_none hno).1
  have r2 : removeS (pl room fs ns bs ms o) t = pl room fs ns bs ms (o + 1) := by
    unfold removeS
    rw [(pl_none hno).1, if_neg (by decide), pl_begin.1]
  have nz : ¬ ((0 : Int) ≠ 0) := by decide
  have n5 : ¬ ((5 : Int) ≠ 0 ∧ (5 : Int) ≠ 5) := by decide
  rw [r1, r2, if_neg n5, if_neg n5]
  have c1 := pl_create (room := room) (o := o + 1) (fs := fs) (ns := ns) (bs := bs) (ms := ms) ht hno
  rw [c1.1, c1.2, if_neg nz, if_neg nz]
  have hd1 : doneN ⟨ByteArray.empty, t, (fs.length : Int)⟩ ns = putN ns t (fs.length : Int) := by rw [done_put (named_list ht), del_none hemp]
  have hg1 : getN (doneN ⟨ByteArray.empty, t, (fs.length : Int)⟩ ns) t = some (fs.length : Int) := by rw [hd1]; exact get_put_self hup
  have hus : usedD (pl room (fs ++ [⟨ByteArray.empty, ByteArray.empty, []⟩]) (doneN ⟨ByteArray.empty, t, (fs.length : Int)⟩ ns) bs (ms ++ [⟨ByteArray.empty, t, (fs.length : Int)⟩]) (o + 1 + 1)) = usedD (pl room fs ns bs ms o) := by
    unfold usedD
    show usedN _ (doneN ⟨ByteArray.empty, t, (fs.length : Int)⟩ ns) = usedN _ ns
    rw [hd1, used_put hno]
    have e0 : nowOf (pl room (fs ++ [⟨ByteArray.empty, ByteArray.empty, []⟩]) (putN ns t (fs.length : Int)) bs (ms ++ [⟨ByteArray.empty, t, (fs.length : Int)⟩]) (o + 1 + 1)) (fs.length : Int) = ByteArray.empty := by
      unfold nowOf
      show (match (fs ++ [(⟨ByteArray.empty, ByteArray.empty, []⟩ : PF)])[((fs.length : Int)).toNat]? with | some f => f.now | none => ByteArray.empty) = _
      rw [Int.toNat_natCast, List.getElem?_append_right (Nat.le_refl _), Nat.sub_self]
      rfl
    rw [e0, used_congr (S' := pl room fs ns bs ms o) (fun p hp => now_app (by have := hidx p hp; have e : (pl room fs ns bs ms o).files = fs := rfl; rw [e] at this; omega))]
    show (0 : Int) + _ = _
    omega
  have a1 := pl_append (x := x) hg1 (by rw [hus]; exact hu)
  rw [Int.toNat_natCast, mod_last] at a1
  have y1 := pl_sync (room := room) (o := o + 1 + 1 + 1) (fs := fs ++ [addF ⟨ByteArray.empty, ByteArray.empty, []⟩ x]) (bs := bs) (ms := ms ++ [⟨ByteArray.empty, t, (fs.length : Int)⟩]) hg1
  rw [Int.toNat_natCast, mod_last] at y1
  unfold putE putS
  rw [a1.1, if_pos rfl, if_pos rfl, a1.2, y1.1, y1.2, if_neg nz, if_neg nz]
  have n1 := pl_rename (room := room) (o := o + 1 + 1 + 1 + 1) (fs := fs ++ [syncF (addF ⟨ByteArray.empty, ByteArray.empty, []⟩ x)]) (bs := bs) (ms := ms ++ [⟨ByteArray.empty, t, (fs.length : Int)⟩]) hg1 hn
  rw [n1.1, n1.2, if_neg nz, if_neg nz, pl_syncDir]
  refine ⟨pl_begin.2, ?_⟩
  have e1 : syncF (addF ⟨ByteArray.empty, ByteArray.empty, []⟩ x) = ⟨x, x, []⟩ := by
    show (⟨ByteArray.empty ++ x, ByteArray.empty ++ x, []⟩ : PF) = _
    rw [emp_app2]
  rw [e1]
  unfold swN
  rw [show o + 1 + 1 + 1 + 1 + 1 + 1 = o + 6 by omega]
end Go.Proofs.Ytolbicncdookmaa.XDsk
