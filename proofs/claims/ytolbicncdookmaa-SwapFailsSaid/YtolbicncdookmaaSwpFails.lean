/- SwapFails: what the second write tells and leaves; what a crash leaves of it. Conditions: lengths. -/
import Derived.Test.YtolbicncdookmaaSwpFl

namespace Go.Proofs.Ytolbicncdookmaa.XDsk
open Go Go.RowKit Go.Maps Go.Sort Go.Shelf Go.Proofs.YtolbicncdookmaaW.PrintWords Go.Proofs.YtolbicncdookmaaW.PrintLast Go.Proofs.YtolbicncdookmaaW.PrintMore Go.Proofs.Ytolbicncdookmaa.Num
set_option linter.unusedVariables false
set_option linter.unusedSimpArgs false
theorem kept_ok0 {c : Nat} {S : PD} (g : Good c S) (dir : Int) : KOk c S.files.length (keptN S dir) := g.snaps _ (by omega)
def m2 : List PM := [⟨ByteArray.empty, nCkT, 1⟩, ⟨nCkT, ByteArray.empty, 0⟩]
def oldD (room : Int) (s : ByteArray) (f : PF) (o q : Int) : PD := fl room [⟨s, s, []⟩, f] ckN ckN m2 o q
def newD2 (room : Int) (s t : ByteArray) (o q : Int) : PD := fl room [⟨s, s, []⟩, ⟨t, t, []⟩] [(nCk, 1)] [(nCk, 1)] [] o q
def ck2 : Names := [(nCk, 0), (nCkT, 1)]
theorem fail_write (room : Int) (s t : ByteArray) (q : Int) (hr : room = (s.size : Int) + 5) (h1 : 1 ≤ q) (h3 : q ≤ 3) :
    ((5 : Int) < (t.size : Int) → writeE (fl room [⟨s, s, []⟩] ckN ckN [] 6 q) nCk t = 9 ∧ ∃ f o q', writeS (fl room [⟨s, s, []⟩] ckN ckN [] 6 q) nCk t = oldD room s f o q') ∧
    (¬ (5 : Int) < (t.size : Int) → q ≠ 3 → writeE (fl room [⟨s, s, []⟩] ckN ckN [] 6 q) nCk t = 10 ∧ ∃ f o q', writeS (fl room [⟨s, s, []⟩] ckN ckN [] 6 q) nCk t = oldD room s f o q') ∧
    (¬ (5 : Int) < (t.size : Int) → q = 3 → writeE (fl room [⟨s, s, []⟩] ckN ckN [] 6 q) nCk t = 0 ∧ ∃ o q', writeS (fl room [⟨s, s, []⟩] ckN ckN [] 6 q) nCk t = newD2 room s t o q') := by
  have nz : ¬ ((0 : Int) ≠ 0) := by decide
  have n5 : ¬ ((5 : Int) ≠ 0 ∧ (5 : Int) ≠ 5) := by decide
  have hff : ¬ (fitsB nCk = false) := by rw [ck_fits]; decide
  have g1 : getN ckN nCkT = none := by decide
  have g2 : getN ck2 nCkT = some 1 := by decide
  have r := fl_removeNo (room := room) (fs := [⟨s, s, []⟩]) (bs := ckN) (ms := []) (o := 6) (q := q) g1
  have c := fl_create (room := room) (fs := [⟨s, s, []⟩]) (bs := ckN) (ms := []) (o := 6 + 1) (q := q) (show namedB nCkT = true by decide) g1
  have ec : fl room ([⟨s, s, []⟩] ++ [⟨ByteArray.empty, ByteArray.empty, []⟩]) (doneN ⟨ByteArray.empty, nCkT, (([(⟨s, s, []⟩ : PF)]).length : Int)⟩ ckN) ckN ([] ++ [⟨ByteArray.empty, nCkT, (([(⟨s, s, []⟩ : PF)]).length : Int)⟩]) (6 + 1 + 1) q = fl room [⟨s, s, []⟩, ⟨ByteArray.empty, ByteArray.empty, []⟩] ck2 ckN [⟨ByteArray.empty, nCkT, 1⟩] 8 q := by
    have e1 : doneN ⟨ByteArray.empty, nCkT, (([(⟨s, s, []⟩ : PF)]).length : Int)⟩ ckN = ck2 := by
      show doneN ⟨ByteArray.empty, nCkT, 1⟩ ckN = ck2
      decide
    rw [e1]; rfl
  rw [ec] at c
  have hu : usedD (fl room [⟨s, s, []⟩, ⟨ByteArray.empty, ByteArray.empty, []⟩] ck2 ckN [⟨ByteArray.empty, nCkT, 1⟩] 8 q) = (s.size : Int) := by
    show (s.size : Int) + (0 + 0) = _
    omega
  have hrm : ∀ (fs : List PF) (o q : Int), removeS (fl room fs ck2 ckN [⟨ByteArray.empty, nCkT, 1⟩] o q) nCkT = fl room fs ckN ckN m2 (o + 1) q := fun fs o q => by
    rw [fl_remove g2]
    have e1 : doneN ⟨nCkT, ByteArray.empty, 0⟩ ck2 = ckN := by decide
    rw [e1]; rfl
  unfold writeE writeS
  rw [if_neg hff, if_neg hff, ck_tmp, r.1, r.2, if_neg n5, if_neg n5, c.1, c.2, if_neg nz, if_neg nz]
  refine ⟨fun hf => ?_, fun hf hq => ?_, fun hf hq => ?_⟩
  · have a := fl_full (x := t) (o := 8) (q := q) (room := room) (fs := [⟨s, s, []⟩, ⟨ByteArray.empty, ByteArray.empty, []⟩]) (bs := ckN) (ms := [⟨ByteArray.empty, nCkT, 1⟩]) g2 (by rw [hu]; omega)
    have n9 : ((9 : Int) ≠ 0) := by decide
    unfold putE putS
    rw [a.1, if_neg n9, if_neg n9, a.2, if_pos n9, if_pos n9, hrm]
    exact ⟨rfl, _, _, _, rfl⟩
  · have n10 : ((10 : Int) ≠ 0) := by decide
    have a := fl_append (x := t) (o := 8) (q := q) (room := room) (fs := [⟨s, s, []⟩, ⟨ByteArray.empty, ByteArray.empty, []⟩]) (bs := ckN) (ms := [⟨ByteArray.empty, nCkT, 1⟩]) g2 (by rw [hu]; omega) h1
    unfold putE putS
    by_cases hq1 : q = 1
    · have a1 := a.1 hq1
      rw [a1.1, if_neg n10, if_neg n10, a1.2, if_pos n10, if_pos n10, hrm]
      exact ⟨rfl, _, _, _, rfl⟩
    · have a1 := a.2 hq1
      rw [a1.1, if_pos rfl, if_pos rfl, a1.2]
      have y := (fl_sync (room := room) (o := 8 + 1) (q := q - 1) (fs := ([⟨s, s, []⟩, ⟨ByteArray.empty, ByteArray.empty, []⟩] : List PF).modify (1 : Int).toNat (addF · t)) (bs := ckN) (ms := [⟨ByteArray.empty, nCkT, 1⟩]) g2 (by omega)).1 (by omega)
      rw [y.1, y.2, if_pos n10, if_pos n10, hrm]
      exact ⟨rfl, _, _, _, rfl⟩
  · subst hq
    have a1 := (fl_append (x := t) (o := 8) (q := 3) (room := room) (fs := [⟨s, s, []⟩, ⟨ByteArray.empty, ByteArray.empty, []⟩]) (bs := ckN) (ms := [⟨ByteArray.empty, nCkT, 1⟩]) g2 (by rw [hu]; omega) h1).2 (by decide)
    unfold putE putS
    rw [a1.1, if_pos rfl, if_pos rfl, a1.2]
    have y := (fl_sync (room := room) (o := 8 + 1) (q := 3 - 1) (fs := ([⟨s, s, []⟩, ⟨ByteArray.empty, ByteArray.empty, []⟩] : List PF).modify (1 : Int).toNat (addF · t)) (bs := ckN) (ms := [⟨ByteArray.empty, nCkT, 1⟩]) g2 (by decide)).2 (by decide)
    rw [y.1, y.2, if_neg nz, if_neg nz]
    have n := fl_rename (tn := nCk) (room := room) (o := 8 + 1 + 1) (q := 3 - 1 - 1) (fs := (([⟨s, s, []⟩, ⟨ByteArray.empty, ByteArray.empty, []⟩] : List PF).modify (1 : Int).toNat (addF · t)).modify (1 : Int).toNat syncF) (bs := ckN) (ms := [⟨ByteArray.empty, nCkT, 1⟩]) g2 (by decide)
    rw [n.1, n.2, if_neg nz, if_neg nz, fl_syncDir]
    refine ⟨fl_begin.2, 12, 1, ?_⟩
    have e1 : doneN ⟨nCkT, nCk, 1⟩ ck2 = [(nCk, 1)] := by decide
    rw [e1]
    show fl room [⟨s, s, []⟩, ⟨ByteArray.empty ++ t, ByteArray.empty ++ t, []⟩] _ _ _ _ _ = _
    rw [emp_app2]
    rfl
theorem old_kept (room : Int) (s : ByteArray) (f : PF) (o q dir : Int) : getN (keptN (oldD room s f o q) dir) nCk = some 0 := by
  have e : keptN (oldD room s f o q) dir = (m2.take (max 0 (min dir 2)).toNat).foldl (fun n m => doneN m n) ckN := rfl
  rw [e]
  have h : (max 0 (min dir 2)).toNat = 0 ∨ (max 0 (min dir 2)).toNat = 1 ∨ (max 0 (min dir 2)).toNat = 2 := by omega
  rcases h with h | h | h <;> rw [h] <;> decide
theorem new_kept (room : Int) (s t : ByteArray) (o q dir : Int) : getN (keptN (newD2 room s t o q) dir) nCk = some 1 := by
  have e : keptN (newD2 room s t o q) dir = (([] : List PM).take (max 0 (min dir 0)).toNat).foldl (fun n m => doneN m n) [(nCk, 1)] := rfl
  rw [e, List.take_nil]
  decide
/-- What stands behind the second write. -/
structure FailW (S : PD) (r : ByteArray) (dir : Int) (ks : List Int) : Prop where
  good : Good 10000 S
  fo : findE S nCk = 0
  ro : readV S nCk = r
  used : usedD S = (r.size : Int)
  len : (keysN S.names).length = 1
  cf : findE (crashD S dir ks) nCk = 0
  cr : readV (crashD S dir ks) nCk = r
theorem old_w {room : Int} {s : ByteArray} {f : PF} {o q dir : Int} {ks : List Int} (g : Good 10000 (oldD room s f o q)) : FailW (oldD room s f o q) s dir ks := by
  have hk := kept_ok0 g dir
  have h1 := crash_find (ks := ks) hk nCk
  have h2 := crash_read (ks := ks) hk nCk
  rw [old_kept] at h1 h2
  refine ⟨g, fl_find (i := 0) (by decide), ?_, ?_, rfl, h1, h2⟩
  · have hf : findE (oldD room s f o q) nCk = 0 := fl_find (i := 0) (by decide)
    have hn : numN (oldD room s f o q) nCk = 0 := fl_num (i := 0) (by decide)
    rw [readV_zero hf, hn]; rfl
  · show (s.size : Int) + 0 = _
    omega
theorem new_w {room : Int} {s t : ByteArray} {o q dir : Int} {ks : List Int} (g : Good 10000 (newD2 room s t o q)) : FailW (newD2 room s t o q) t dir ks := by
  have hk := kept_ok0 g dir
  have h1 := crash_find (ks := ks) hk nCk
  have h2 := crash_read (ks := ks) hk nCk
  rw [new_kept] at h1 h2
  refine ⟨g, fl_find (i := 1) (by decide), ?_, ?_, rfl, h1, h2⟩
  · have hf : findE (newD2 room s t o q) nCk = 0 := fl_find (i := 1) (by decide)
    have hn : numN (newD2 room s t o q) nCk = 1 := fl_num (i := 1) (by decide)
    rw [readV_zero hf, hn]; rfl
  · show (t.size : Int) + 0 = _
    omega
end Go.Proofs.Ytolbicncdookmaa.XDsk
