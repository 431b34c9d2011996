/- The disk's moved: a change of names is done, and noted. Conditions: counts below a million. -/
import Derived.Test.YtolbicncdookmaaDskSet
import Derived.StillTailTactics
import Derived.BigRegion
import Derived.Deep.RegionLaw
namespace Go.Proofs.Ytolbicncdookmaa.XDsk
open Go Go.RowKit Go.Maps Go.Proofs.YtolbicncdookmaaW.PrintWords Go.Proofs.YtolbicncdookmaaW.PrintLast Go.Proofs.YtolbicncdookmaaW.PrintMore
attribute [local go_sem] max2_int min2_int max_two min_two
set_option linter.unusedVariables false
set_option linter.unusedSimpArgs false
/-- What an operation leaves: the disk, somewhere in its own old blocks and in new ones; nothing else has turned. -/
def Went (B : Nat) (w : World) (L : Lay) (b : Nat) (S : PD) (w' : World) : Prop := ∃ L', DskL B w' L' b S ∧ Upto (foot L b) w w' ∧ ∀ k, foot L' b k → foot L b k ∨ w.heap.size ≤ k
theorem info_move : (Try.prog.info? 69).map (fun i => (i.zero, i.size, i.bytes)) = some (some (.agg #[.string ⟨#[]⟩, .string ⟨#[]⟩, .int .i64 0]), 3, 40) := by kernel_rfl
theorem aggM_cells (pm : PM) : (aggM pm).cells.toList = [.string pm.src, .string pm.dst, .int .i64 pm.file] := rfl
theorem mvV_snoc (ms : List PM) (pm : PM) : mvV (ms ++ [pm]) = mvV ms ++ [.string pm.src, .string pm.dst, .int .i64 pm.file] := by unfold mvV; rw [List.flatMap_append]; rfl
variable {B b : Nat} {w : World} {L : Lay} {S : PD}
set_option maxHeartbeats 1000000 in
set_option maxRecDepth 100000 in
theorem moved_calls (pm : PM) (h : DskL B w L b S) (hS : Lim S) (hp : PMok pm) (hB : B ≤ w.heap.size) :
    Calls Try.prog 37 #[.pointer (some ⟨b, 0, none⟩), aggM pm] w fun e w' => e = .returned (.tuple #[]) ∧ Went B w L b (movedS S pm) w' := by
  obtain ⟨src, dst, file⟩ := pm
  obtain ⟨w0, hw0⟩ : ∃ w0, w0 = w.alloc (.cells #[.string src, .string dst, .int .i64 file] 69) := ⟨_, rfl⟩
  obtain ⟨g0, hg0⟩ : ∃ g0, g0 = w.heap.size := ⟨_, rfl⟩
  have h1 : DskL B w0 L b S := by rw [hw0]; exact h.alloc _
  have hx : w0.heap[g0]? = some (.cells #[.string src, .string dst, .int .i64 file] 69 (0, 0)) := by rw [hw0, hg0]; exact blk_new w _
  have hu : Upto (foot L b) w w0 := by rw [hw0]; exact (Upto.refl _ _).alloc _
  have hgl : ∀ k, foot L b k → k < g0 := fun k hk => by rw [hg0]; exact (h.foot_lt hk).2
  have x0 : w0.cell? ⟨g0, 0, none⟩ = some (.string src) := (blk_cell hx 0).trans rfl
  have x1 : w0.cell? ⟨g0, 1, none⟩ = some (.string dst) := (blk_cell hx 1).trans rfl
  have x2 : w0.cell? ⟨g0, 2, none⟩ = some (.int .i64 file) := (blk_cell hx 2).trans rfl
  obtain ⟨c0, c1, c2, c3, c4, c5, c6, c7, f⟩ := h1.cells
  have HN := Lib.hid hS.count
  have HM := Lib.hid hS.moves
  have HD := Lib.hid h1
  have HX := Lib.hid hx
  have HU := Lib.hid hu
  have HGL := Lib.hid hgl
  clear c0 c1 c3 c4 c5 c6 c7 hS h h1 hx hu hgl
  unfold aggM
  go_enter Try.func37, Try.ntmps37
  go_wp2_with fail
  rw [← hw0, ← hg0]
  have HW0 := Lib.hid hw0
  have HG0 := Lib.hid hg0
  clear hw0 hg0
  go_still_tail 5, (by kernel_rfl)
  change wpList _ _ _ _ _ w0.drew
  have H2 := Lib.hid HD.out.drew
  have HX2 := Lib.hid (show w0.drew.heap[g0]? = some (.cells #[.string src, .string dst, .int .i64 file] 69 (0, 0)) from HX.out)
  have HU2 := Lib.hid HU.out.drew
  clear x0 x1 x2 c2 f HD HX HU HW0
  generalize w0.drew = w2 at H2 HX2 HU2 ⊢
  have hdn : Calls Try.prog 41 #[.agg #[.string src, .string dst, .int .i64 file], .map (some L.nb)] w2 (fun e w' => e = .returned (.tuple #[]) ∧ MapAt w' L.nb (doneN ⟨src, dst, file⟩ S.names) ∧ w2.grownBy w' (some L.nb)) := done_calls ⟨src, dst, file⟩ H2.out.names hp (by have := HN.out; unfold maxLen; omega)
  have HDN := Lib.hid hdn
  have cc2 : w2.cell? ⟨b, 2, none⟩ = some (.map (some L.nb)) := H2.out.cells.2.2.1
  have cx0 : w2.cell? ⟨g0, 0, none⟩ = some (.string src) := (blk_cell HX2.out 0).trans rfl
  have cx1 : w2.cell? ⟨g0, 1, none⟩ = some (.string dst) := (blk_cell HX2.out 1).trans rfl
  have cx2 : w2.cell? ⟨g0, 2, none⟩ = some (.int .i64 file) := (blk_cell HX2.out 2).trans rfl
  clear hdn
  go_wp2_with (go_at_call 41; refine HDN.out.mono ?_; rintro e w3 ⟨rfl, hm, hg⟩)
  obtain ⟨es, cl, hnb⟩ := H2.out.names.obj
  have hx3 : w3.heap[g0]? = some (.cells #[.string src, .string dst, .int .i64 file] 69 (0, 0)) := blk_grown HX2.out hg (fun e => by injection e with e; exact map_ne hnb HX2.out e.symm)
  have h3 := H2.out.setNames hm hg
  have hu3 := HU2.out.grown hg (fun j hj => by injection hj with hj; exact .inl (.inr (.inl hj.symm)))
  have x0 : w3.cell? ⟨g0, 0, none⟩ = some (.string src) := (blk_cell hx3 0).trans rfl
  have x1 : w3.cell? ⟨g0, 1, none⟩ = some (.string dst) := (blk_cell hx3 1).trans rfl
  have x2 : w3.cell? ⟨g0, 2, none⟩ = some (.int .i64 file) := (blk_cell hx3 2).trans rfl
  obtain ⟨c0, c1, c2, c3, c4, c5, c6, c7, f⟩ := h3.cells
  have c4b : w3.cell? ⟨b, 4, none⟩ = some L.vm := c4
  have c4a : (w3.alloc (.cells #[.string src, .string dst, .int .i64 file] 69)).cell? ⟨b, 4, none⟩ = some L.vm := (h3.alloc _).cells.2.2.2.2.1
  have H3 := Lib.hid h3
  have HU3 := Lib.hid hu3
  have hbs : B ≤ w3.heap.size := by have := hu3.size; omega
  have HBS := Lib.hid hbs
  have HR := Lib.hid (show w3.ownsRow B 69 3 L.vm S.moves.length (mvV S.moves) from h3.moves)
  have hbl : b < w3.heap.size := blk_lt h3.box
  have hnb2 : L.vm.ownBlock ≠ some b := fun e => by obtain ⟨cur, hb⟩ := row_obj h3.moves e; exact blk_ne hb h3.box (by decide) rfl
  have HNB := Lib.hid hnb2
  have HBL := Lib.hid hbl
  clear c0 c1 c2 c3 c5 c6 c7 hm hg hnb hx3 h3 hu3 H2 HX2 HU2 hbs hbl hnb2 c4
  obtain ⟨i0, hi0, hz0, hz1, hz2⟩ := info_parts info_move
  have HZ := Lib.hid hi0
  have HZ0 := Lib.hid hz0
  have HZ1 := Lib.hid hz1
  have HZ2 := Lib.hid hz2
  clear hi0 hz0 hz1 hz2
  go_region_law (first | (refine step_append_lies _ rfl (.tmp 14) (.tmp 16) 57 rfl B 69 i0 _ 3 40 Try.underlying57 HZ.out HZ0.out HZ1.out HZ2.out rfl (by decide) L.vm S.moves.length (mvV S.moves) (by rfl) ((HR.out.alloc _).drew) ⟨w3.heap.size, 0, none⟩ 1 1 [.string src, .string dst, .int .i64 file] (by rfl) (by rfl) (World.news_of_block (cs := #[.string src, .string dst, .int .i64 file]) (t := 69) (fr := (0, 0)) (heap_alloc_new w3 _)) (by simp [Value.oneCell']) (by omega) (by have := HM.out; unfold maxLen; omega) (by have := HM.out; omega) (by have := HBS.out; simp; omega) (w3.heap.size + 1) (by simp) ?_; intro g cap w4 hown hgrow hat hlt; have hb4 := blk_grown (((H3.out.alloc (.cells #[.string src, .string dst, .int .i64 file] 69)).drew).box) hgrow (fun e => HNB.out e.symm); have b4 : w4.cell? ⟨b, 4, none⟩ = some L.vm := (blk_cell hb4 4).trans rfl; have f4 : ∀ j, w4.frozen? ⟨b, j, none⟩ = false := blk_frozen hb4; clear hb4))
  all_goals
    have h5 := ((H3.out.alloc (.cells #[.string src, .string dst, .int .i64 file] 69)).drew).setMoves (ms := S.moves ++ [⟨src, dst, file⟩]) (by rw [mvV_snoc, List.length_append]; exact hown) hgrow
    have H5 := Lib.hid h5
    have HG := Lib.hid hgrow
    have HAT := Lib.hid hat
    clear h5 hgrow hat hown
    go_wp2
    go_end0
    refine ⟨rfl, _, H5.out, ?_, ?_⟩
    · refine (((HU3.out.alloc _).drew).grown HG.out (fun j hj => .inl (.inr (.inr (.inr (.inr (.inl hj))))))).setCell (.inl (.inl rfl)) _
    · intro k hk
      rcases hk with hk | hk | hk | hk | hk | hk
      · exact .inl (.inl hk)
      · exact .inl (.inr (.inl hk))
      · exact .inl (.inr (.inr (.inl hk)))
      · exact .inl (.inr (.inr (.inr (.inl hk))))
      · injection hk with hk
        subst hk
        rcases HAT.out with e | e
        · exact .inl (.inr (.inr (.inr (.inr (.inl e)))))
        · right; have := HU3.out.size; show w.heap.size ≤ g; omega
      · exact .inl (.inr (.inr (.inr (.inr (.inr hk)))))
end Go.Proofs.Ytolbicncdookmaa.XDsk
