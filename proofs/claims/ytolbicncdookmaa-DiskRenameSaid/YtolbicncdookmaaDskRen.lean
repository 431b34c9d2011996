/- DiskRename: of three files, the first named over the second, all reads as it should, before and behind a crash. Conditions: lengths. -/
import Derived.Test.YtolbicncdookmaaDskMany
import Derived.Test.YtolbicncdookmaaDskPlain
import Derived.Test.YtolbicncdookmaaDskFront

namespace Go.Proofs.Ytolbicncdookmaa.XDsk
open Go Go.RowKit Go.Maps Go.Sort Go.Shelf Go.Proofs.YtolbicncdookmaaW.PrintWords Go.Proofs.YtolbicncdookmaaW.PrintLast Go.Proofs.YtolbicncdookmaaW.PrintMore Go.Proofs.Ytolbicncdookmaa.Num
set_option linter.unusedVariables false
set_option linter.unusedSimpArgs false
theorem emp_app (s : ByteArray) : ByteArray.empty ++ s = s := ba_eq (by rw [list_app]; rfl)
def nB : ByteArray := ⟨#[98]⟩
def nC : ByteArray := ⟨#[99]⟩
def nm3 : Nat → ByteArray
  | 0 => nA
  | 1 => nB
  | _ => nC
def tx3 (s t u : ByteArray) : Nat → ByteArray
  | 0 => s
  | 1 => t
  | _ => u
def mvOf (nm : ByteArray) (i : Int) : PM := ⟨ByteArray.empty, nm, i⟩
def r0 (s t u : ByteArray) : Nat → PD
  | 0 => pl 10000 [] [] [] [] 0
  | 1 => pl 10000 [⟨s, s, []⟩] [(nA, 0)] [] [mvOf nA 0] 3
  | 2 => pl 10000 [⟨s, s, []⟩, ⟨t, t, []⟩] [(nA, 0), (nB, 1)] [] [mvOf nA 0, mvOf nB 1] 6
  | _ => pl 10000 [⟨s, s, []⟩, ⟨t, t, []⟩, ⟨u, u, []⟩] [(nA, 0), (nB, 1), (nC, 2)] [] [mvOf nA 0, mvOf nB 1, mvOf nC 2] 9
def r1 (s t u : ByteArray) (k : Nat) : PD := createS (r0 s t u k) (nm3 k)
def r2 (s t u : ByteArray) (k : Nat) : PD := appendS (r1 s t u k) (nm3 k) (tx3 s t u k)
theorem r_all (s t u : ByteArray) (h : s.size + t.size + u.size ≤ 1000) (k : Nat) (hk : k < 3) :
    createE (r0 s t u k) (nm3 k) = 0 ∧ appendE (r1 s t u k) (nm3 k) (tx3 s t u k) = 0 ∧ syncE (r2 s t u k) (nm3 k) = 0 ∧ syncS (r2 s t u k) (nm3 k) = r0 s t u (k + 1) := by
  match k, hk with
  | 0, _ =>
    have c := pl_create (room := 10000) (o := 0) (fs := []) (ns := []) (bs := []) (ms := []) (nm := nA) (by decide) (by decide)
    have a := pl_append (room := 10000) (o := 1) (i := 0) (fs := [⟨ByteArray.empty, ByteArray.empty, []⟩]) (ns := [(nA, 0)]) (bs := []) (ms := [mvOf nA 0]) (nm := nA) (x := s) (by decide) (by show (0 : Int) + 0 + _ ≤ _; omega)
    have y := pl_sync (room := 10000) (o := 2) (i := 0) (fs := [⟨ByteArray.empty, ByteArray.empty ++ s, [(s, -1)]⟩]) (ns := [(nA, 0)]) (bs := []) (ms := [mvOf nA 0]) (nm := nA) (by decide)
    refine ⟨c.1, ?_, ?_, ?_⟩
    · unfold r1; rw [show createS (r0 s t u 0) (nm3 0) = _ from c.2]; exact a.1
    · unfold r2 r1; rw [show createS (r0 s t u 0) (nm3 0) = _ from c.2]; rw [show appendS (pl 10000 ([] ++ [⟨ByteArray.empty, ByteArray.empty, []⟩]) (doneN ⟨ByteArray.empty, nA, (([] : List PF).length : Int)⟩ []) [] ([] ++ [⟨ByteArray.empty, nA, (([] : List PF).length : Int)⟩]) (0 + 1)) (nm3 0) (tx3 s t u 0) = _ from a.2]; exact y.1
    · unfold r2 r1; rw [show createS (r0 s t u 0) (nm3 0) = _ from c.2]; rw [show appendS (pl 10000 ([] ++ [⟨ByteArray.empty, ByteArray.empty, []⟩]) (doneN ⟨ByteArray.empty, nA, (([] : List PF).length : Int)⟩ []) [] ([] ++ [⟨ByteArray.empty, nA, (([] : List PF).length : Int)⟩]) (0 + 1)) (nm3 0) (tx3 s t u 0) = _ from a.2]
      refine Eq.trans y.2 ?_
      show pl 10000 [⟨ByteArray.empty ++ s, ByteArray.empty ++ s, []⟩] _ _ _ _ = _
      rw [emp_app]; rfl
  | 1, _ =>
    have c := pl_create (room := 10000) (o := 3) (fs := [⟨s, s, []⟩]) (ns := [(nA, 0)]) (bs := []) (ms := [mvOf nA 0]) (nm := nB) (by decide) (by decide)
    have a := pl_append (room := 10000) (o := 4) (i := 1) (fs := [⟨s, s, []⟩, ⟨ByteArray.empty, ByteArray.empty, []⟩]) (ns := [(nA, 0), (nB, 1)]) (bs := []) (ms := [mvOf nA 0, mvOf nB 1]) (nm := nB) (x := t) (by decide) (by show (s.size : Int) + (0 + 0) + _ ≤ _; omega)
    have y := pl_sync (room := 10000) (o := 5) (i := 1) (fs := [⟨s, s, []⟩, ⟨ByteArray.empty, ByteArray.empty ++ t, [(t, -1)]⟩]) (ns := [(nA, 0), (nB, 1)]) (bs := []) (ms := [mvOf nA 0, mvOf nB 1]) (nm := nB) (by decide)
    have e1 : r1 s t u 1 = pl 10000 [⟨s, s, []⟩, ⟨ByteArray.empty, ByteArray.empty, []⟩] [(nA, 0), (nB, 1)] [] [mvOf nA 0, mvOf nB 1] 4 := c.2.trans rfl
    have e2 : r2 s t u 1 = pl 10000 [⟨s, s, []⟩, ⟨ByteArray.empty, ByteArray.empty ++ t, [(t, -1)]⟩] [(nA, 0), (nB, 1)] [] [mvOf nA 0, mvOf nB 1] 5 := by unfold r2; rw [e1]; exact a.2.trans rfl
    refine ⟨c.1, by rw [e1]; exact a.1, by rw [e2]; exact y.1, ?_⟩
    rw [e2]
    refine Eq.trans y.2 ?_
    show pl 10000 [⟨s, s, []⟩, ⟨ByteArray.empty ++ t, ByteArray.empty ++ t, []⟩] _ _ _ _ = _
    rw [emp_app]; rfl
  | 2, _ =>
    have c := pl_create (room := 10000) (o := 6) (fs := [⟨s, s, []⟩, ⟨t, t, []⟩]) (ns := [(nA, 0), (nB, 1)]) (bs := []) (ms := [mvOf nA 0, mvOf nB 1]) (nm := nC) (by decide) (by decide)
    have a := pl_append (room := 10000) (o := 7) (i := 2) (fs := [⟨s, s, []⟩, ⟨t, t, []⟩, ⟨ByteArray.empty, ByteArray.empty, []⟩]) (ns := [(nA, 0), (nB, 1), (nC, 2)]) (bs := []) (ms := [mvOf nA 0, mvOf nB 1, mvOf nC 2]) (nm := nC) (x := u) (by decide) (by show (s.size : Int) + ((t.size : Int) + (0 + 0)) + _ ≤ _; omega)
    have y := pl_sync (room := 10000) (o := 8) (i := 2) (fs := [⟨s, s, []⟩, ⟨t, t, []⟩, ⟨ByteArray.empty, ByteArray.empty ++ u, [(u, -1)]⟩]) (ns := [(nA, 0), (nB, 1), (nC, 2)]) (bs := []) (ms := [mvOf nA 0, mvOf nB 1, mvOf nC 2]) (nm := nC) (by decide)
    have e1 : r1 s t u 2 = pl 10000 [⟨s, s, []⟩, ⟨t, t, []⟩, ⟨ByteArray.empty, ByteArray.empty, []⟩] [(nA, 0), (nB, 1), (nC, 2)] [] [mvOf nA 0, mvOf nB 1, mvOf nC 2] 7 := c.2.trans rfl
    have e2 : r2 s t u 2 = pl 10000 [⟨s, s, []⟩, ⟨t, t, []⟩, ⟨ByteArray.empty, ByteArray.empty ++ u, [(u, -1)]⟩] [(nA, 0), (nB, 1), (nC, 2)] [] [mvOf nA 0, mvOf nB 1, mvOf nC 2] 8 := by unfold r2; rw [e1]; exact a.2.trans rfl
    refine ⟨c.1, by rw [e1]; exact a.1, by rw [e2]; exact y.1, ?_⟩
    rw [e2]
    refine Eq.trans y.2 ?_
    show pl 10000 [⟨s, s, []⟩, ⟨t, t, []⟩, ⟨ByteArray.empty ++ u, ByteArray.empty ++ u, []⟩] _ _ _ _ = _
    rw [emp_app]; rfl
theorem nm3_size (k : Nat) : (nm3 k).size ≤ 1000000 := by unfold nm3; split <;> decide
theorem r_good1 {s t u : ByteArray} {k c : Nat} (g : Good c (r0 s t u k)) : Good (c + 3) (r1 s t u k) := g.create _ (nm3_size k)
theorem r_good2 {s t u : ByteArray} {k c : Nat} (g : Good c (r1 s t u k)) : Good (c + 3 + (tx3 s t u k).size) (r2 s t u k) := g.append _ _
theorem tx3_size {s t u : ByteArray} (h : s.size + t.size + u.size ≤ 1000) (k : Nat) : (tx3 s t u k).size ≤ 1000 := by unfold tx3; split <;> omega
theorem r_good {s t u : ByteArray} (h : s.size + t.size + u.size ≤ 1000) : ∀ k, k ≤ 3 → Good (1009 * k) (r0 s t u k)
  | 0, _ => Good.new (room := 10000) (by decide)
  | k + 1, hk => by
    have h1 := (r_good2 (r_good1 (r_good h k (by omega)))).sync (nm3 k)
    rw [(r_all s t u h k (by omega)).2.2.2] at h1
    have := tx3_size h k
    exact h1.mono (by omega)
/-- Behind the directory's sync, and behind the change of names. -/
def rE (s t u : ByteArray) : PD := pl 10000 [⟨s, s, []⟩, ⟨t, t, []⟩, ⟨u, u, []⟩] [(nA, 0), (nB, 1), (nC, 2)] [(nA, 0), (nB, 1), (nC, 2)] [] 10
def rF (s t u : ByteArray) : PD := pl 10000 [⟨s, s, []⟩, ⟨t, t, []⟩, ⟨u, u, []⟩] [(nB, 0), (nC, 2)] [(nA, 0), (nB, 1), (nC, 2)] [⟨nA, nB, 0⟩] 11
theorem rE_is (s t u : ByteArray) : beginE (r0 s t u 3) = 0 ∧ syncDirS (r0 s t u 3) = rE s t u := ⟨pl_begin.2, pl_syncDir.trans rfl⟩
theorem rF_is (s t u : ByteArray) : renameE (rE s t u) nA nB = 0 ∧ renameS (rE s t u) nA nB = rF s t u := by
  have h := pl_rename (room := 10000) (o := 10) (i := 0) (fs := [⟨s, s, []⟩, ⟨t, t, []⟩, ⟨u, u, []⟩]) (ns := [(nA, 0), (nB, 1), (nC, 2)]) (bs := [(nA, 0), (nB, 1), (nC, 2)]) (ms := []) (nm := nA) (tn := nB) (by decide) (by decide)
  exact ⟨h.1, h.2.trans rfl⟩
theorem rE_good {s t u : ByteArray} (h : s.size + t.size + u.size ≤ 1000) : Good 4000 (rE s t u) := by
  have := (r_good h 3 (Nat.le_refl _)).syncDir
  rw [(rE_is s t u).2] at this
  exact this.mono (by omega)
theorem rF_good {s t u : ByteArray} (h : s.size + t.size + u.size ≤ 1000) : Good 5000 (rF s t u) := by
  have := (rE_good h).rename nA nB (by decide) (by decide)
  rw [(rF_is s t u).2] at this
  exact this.mono (by omega)
theorem rF_reads (s t u : ByteArray) : (findE (rF s t u) nB = 0 ∧ readV (rF s t u) nB = s) ∧ (findE (rF s t u) nC = 0 ∧ readV (rF s t u) nC = u) ∧ (findE (rF s t u) nA = 5 ∧ readV (rF s t u) nA = ByteArray.empty) ∧ usedD (rF s t u) = (s.size : Int) + (u.size : Int) := by
  refine ⟨⟨pl_find (i := 0) (by decide), (pl_read (i := 0) (by decide)).trans rfl⟩, ⟨pl_find (i := 2) (by decide), (pl_read (i := 2) (by decide)).trans rfl⟩, pl_none (by decide), ?_⟩
  show (s.size : Int) + ((u.size : Int) + 0) = _
  omega
theorem rF_kept (s t u : ByteArray) (dir : Int) : keptN (rF s t u) dir = if dir < 1 then [(nA, 0), (nB, 1), (nC, 2)] else [(nB, 0), (nC, 2)] := by
  have e : keptN (rF s t u) dir = ([(⟨nA, nB, 0⟩ : PM)].take (max 0 (min dir 1)).toNat).foldl (fun n m => doneN m n) [(nA, 0), (nB, 1), (nC, 2)] := rfl
  rw [e]
  by_cases h : dir < 1
  · rw [if_pos h, show (max 0 (min dir 1)).toNat = 0 by omega]; rfl
  · rw [if_neg h, show (max 0 (min dir 1)).toNat = 1 by omega]; rfl
theorem atF_nil (s t : ByteArray) (m : Int) : atF ⟨s, t, []⟩ m = s := rfl
theorem kept_ok {c : Nat} {S : PD} (g : Good c S) (dir : Int) : KOk c S.files.length (keptN S dir) := g.snaps _ (by omega)
/-- What a crash leaves. -/
theorem rF_crash (s t u : ByteArray) (h : s.size + t.size + u.size ≤ 1000) (dir : Int) (ks : List Int) :
    (findE (crashD (rF s t u) dir ks) nC = 0 ∧ readV (crashD (rF s t u) dir ks) nC = u) ∧ findE (crashD (rF s t u) dir ks) nB = 0 ∧
    (dir < 1 → (findE (crashD (rF s t u) dir ks) nA = 0 ∧ readV (crashD (rF s t u) dir ks) nA = s) ∧ readV (crashD (rF s t u) dir ks) nB = t) ∧
    (¬ dir < 1 → (findE (crashD (rF s t u) dir ks) nA = 5 ∧ readV (crashD (rF s t u) dir ks) nA = ByteArray.empty) ∧ readV (crashD (rF s t u) dir ks) nB = s) := by
  have hk := kept_ok (rF_good h) dir
  have fnd := fun n => crash_find (ks := ks) hk n
  have rd := fun n => crash_read (ks := ks) hk n
  rw [rF_kept] at fnd rd
  by_cases hd : dir < 1
  · simp only [if_pos hd] at fnd rd
    refine ⟨⟨fnd nC, rd nC⟩, fnd nB, fun _ => ⟨⟨fnd nA, rd nA⟩, rd nB⟩, fun h => absurd hd h⟩
  · simp only [if_neg hd] at fnd rd
    refine ⟨⟨fnd nC, rd nC⟩, fnd nB, fun h => absurd h hd, fun _ => ⟨⟨fnd nA, rd nA⟩, rd nB⟩⟩
end Go.Proofs.Ytolbicncdookmaa.XDsk
