/- A file notes what was done to it: what it has, and one change more. Conditions: those that each theorem names. -/
import Derived.Test.YtolbicncdookmaaDskUsed

namespace Go.Proofs.Ytolbicncdookmaa.XDsk
open Go Go.RowKit Go.Maps Go.Proofs.YtolbicncdookmaaW.PrintWords Go.Proofs.YtolbicncdookmaaW.PrintLast Go.Proofs.YtolbicncdookmaaW.PrintMore Go.Proofs.Ytolbicncdookmaa.Num
set_option linter.unusedVariables false
set_option linter.unusedSimpArgs false
theorem info_change : (Try.prog.info? 71).map (fun i => (i.zero, i.size, i.bytes)) = some (some (.agg #[.string ⟨#[]⟩, .int .i64 0]), 2, 24) := by kernel_rfl
theorem chV_snoc (ch : List (ByteArray × Int)) (t : ByteArray) (c : Int) : chV (ch ++ [(t, c)]) = chV ch ++ [.string t, .int .i64 c] := by unfold chV; rw [List.flatMap_append]; rfl
def noteF (f : PF) (x t : ByteArray) (c : Int) : PF := { base := f.base, now := x, ch := f.ch ++ [(t, c)] }
variable {B b : Nat} {w w1 w3 w6 : World} {L : Lay} {S S3 : PD} {i : Int}
/-- What stands behind the store of what a file has. -/
structure Noted (B b : Nat) (L : Lay) (S : PD) (i : Int) (p : Nat × Value) (f : PF) (w3 : World) (x : ByteArray) (w : World) : Prop where
  h : DskL B w3 L b S
  at_ : L.fs[i.toNat]? = some p
  file : S.files[i.toNat]? = some f
  up : Upto (fun k => k = p.1 ∨ p.2.ownBlock = some k) w3 w
  blk : w.heap[p.1]? = some (.cells #[.string f.base, .string x, p.2] 66 (0, 0))
  row : w.ownsRow B 71 2 p.2 f.ch.length (chV f.ch)
theorem Noted.start {p : Nat × Value} {f : PF} (h : DskL B w3 L b S) (hp : L.fs[i.toNat]? = some p) (hf : S.files[i.toNat]? = some f) : Noted B b L S i p f w3 f.now w3 :=
  ⟨h, hp, hf, Upto.refl _ _, (h.each _ p f hp hf).blk, (h.each _ p f hp hf).row⟩
theorem Noted.far {p : Nat × Value} {f : PF} {x : ByteArray} (h : Noted B b L S i p f w3 x w) {k : Nat} (hk : p.2.ownBlock = some k) : k ≠ p.1 := by
  obtain ⟨cur, hb⟩ := row_obj h.row hk
  exact blk_ne hb h.blk (by decide)
theorem Noted.now {p : Nat × Value} {f : PF} {x : ByteArray} (h : Noted B b L S i p f w3 x w) (y : ByteArray) : Noted B b L S i p f w3 y (w.setCell ⟨p.1, 1, none⟩ (.string y)) :=
  ⟨h.h, h.at_, h.file, h.up.setCell (p := ⟨p.1, 1, none⟩) (.inl (.inl rfl)) _, blk_put h.blk 1 _ rfl, row_same h.row (fun k hk => Below.heap_setCell _ ⟨p.1, 1, none⟩ _ k (h.far hk))⟩
theorem Noted.alloc {p : Nat × Value} {f : PF} {x : ByteArray} (h : Noted B b L S i p f w3 x w) (o : Obj) : Noted B b L S i p f w3 x (w.alloc o) :=
  ⟨h.h, h.at_, h.file, h.up.alloc o, blk_alloc h.blk o, h.row.alloc o⟩
theorem Noted.cells {p : Nat × Value} {f : PF} {x : ByteArray} (h : Noted B b L S i p f w3 x w) : w.cell? ⟨p.1, 0, none⟩ = some (.string f.base) ∧ w.cell? ⟨p.1, 1, none⟩ = some (.string x) ∧ w.cell? ⟨p.1, 2, none⟩ = some p.2 ∧ ∀ j, w.frozen? ⟨p.1, j, none⟩ = false :=
  ⟨(blk_cell h.blk 0).trans rfl, (blk_cell h.blk 1).trans rfl, (blk_cell h.blk 2).trans rfl, blk_frozen h.blk⟩
/-- The row has grown: the file's cells are there still. -/
theorem Noted.grown_cells {p : Nat × Value} {f : PF} {x : ByteArray} (h : Noted B b L S i p f w3 x w) (hg : w.grownBy w6 p.2.ownBlock) : w6.cell? ⟨p.1, 2, none⟩ = some p.2 ∧ ∀ j, w6.frozen? ⟨p.1, j, none⟩ = false := by
  have hb := blk_grown h.blk hg (fun e => h.far e.symm rfl)
  exact ⟨(blk_cell hb 2).trans rfl, blk_frozen hb⟩
/-- The file is done. -/
theorem Noted.done {p : Nat × Value} {f : PF} {x t : ByteArray} {c : Int} {g cap n : Nat} {w0 : World} (h : Noted B b L S i p f w3 x w) (hn : n = f.ch.length + 1) (hown : w6.ownsRow B 71 2 (.slice (some ⟨g, 0, none⟩) n cap) n (chV f.ch ++ [.string t, .int .i64 c])) (hg : w.grownBy w6 p.2.ownBlock) (hat : p.2.ownBlock = some g ∨ w3.heap.size ≤ g)
    (hu : Upto (foot L b) w0 w3) : Went B w0 L b { S with files := S.files.set i.toNat (noteF f x t c) } (w6.setCell ⟨p.1, 2, none⟩ (.slice (some ⟨g, 0, none⟩) n cap)) := by
  subst hn
  have hb := blk_grown h.blk hg (fun e => h.far e.symm rfl)
  have hg1 : g ≠ p.1 := by
    obtain ⟨cur, hb2⟩ := row_obj hown (k := g) rfl
    exact blk_ne hb2 hb (by decide)
  have hF : FileAt B (w6.setCell ⟨p.1, 2, none⟩ (.slice (some ⟨g, 0, none⟩) (f.ch.length + 1) cap)) (p.1, .slice (some ⟨g, 0, none⟩) (f.ch.length + 1) cap) (noteF f x t c) := by
    refine ⟨(h.h.each _ p f h.at_ h.file).ge, blk_put hb 2 _ rfl, ?_⟩
    show World.ownsRow _ B 71 2 _ (f.ch ++ [(t, c)]).length (chV (f.ch ++ [(t, c)]))
    rw [chV_snoc, List.length_append]
    exact row_same hown (fun k hk => by injection hk with hk; subst hk; exact Below.heap_setCell _ ⟨p.1, 2, none⟩ _ g hg1)
  have hup : Upto (fun k => k = p.1 ∨ p.2.ownBlock = some k) w3 (w6.setCell ⟨p.1, 2, none⟩ (.slice (some ⟨g, 0, none⟩) (f.ch.length + 1) cap)) :=
    (h.up.grown hg (fun j hj => .inl (.inr hj))).setCell (p := ⟨p.1, 2, none⟩) (.inl (.inl rfl)) _
  have hD := h.h.setFile h.at_ h.file hF hup (by
    rcases hat with e | e
    · exact .inl e.symm
    · exact .inr (.inr ⟨g, rfl, e⟩))
  have hpm : p ∈ L.fs := List.mem_of_getElem? h.at_
  refine ⟨_, hD, hu.trans hup (fun k hk => .inl (.inr (.inr (.inr (.inr (.inr ⟨p, hpm, hk⟩)))))), fun k hk => ?_⟩
  rcases hk with hk | hk | hk | hk | hk | ⟨q, hq, hk⟩
  · exact .inl (.inl hk)
  · exact .inl (.inr (.inl hk))
  · exact .inl (.inr (.inr (.inl hk)))
  · exact .inl (.inr (.inr (.inr (.inl hk))))
  · exact .inl (.inr (.inr (.inr (.inr (.inl hk)))))
  · rcases List.mem_or_eq_of_mem_set hq with hq | rfl
    · exact .inl (.inr (.inr (.inr (.inr (.inr ⟨q, hq, hk⟩)))))
    · rcases hk with hk | hk
      · exact .inl (.inr (.inr (.inr (.inr (.inr ⟨p, hpm, .inl hk⟩)))))
      · injection hk with hk
        subst hk
        rcases hat with e | e
        · exact .inl (.inr (.inr (.inr (.inr (.inr ⟨p, hpm, .inr e⟩)))))
        · right; have := hu.size; show w0.heap.size ≤ g; omega
end Go.Proofs.Ytolbicncdookmaa.XDsk
