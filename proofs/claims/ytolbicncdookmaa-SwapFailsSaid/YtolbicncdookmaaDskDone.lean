/- A change of names is done on a map of names. Conditions: the texts' lengths, a number of 64 bits, a map of fewer entries than memory has. -/
import Derived.Test.YtolbicncdookmaaDskFind
namespace Go.Proofs.Ytolbicncdookmaa.XDsk
open Go Go.RowKit Go.Maps Go.Proofs.YtolbicncdookmaaW.PrintWords Go.Proofs.YtolbicncdookmaaW.PrintLast Go.Proofs.YtolbicncdookmaaW.PrintMore
attribute [local go_sem] max2_int min2_int max_two min_two
set_option linter.unusedVariables false
set_option linter.unusedSimpArgs false
theorem MapAt.alloc {w : World} {g : Nat} {m : Names} (h : MapAt w g m) (o : Obj) : MapAt (w.alloc o) g m := World.ownsMap.alloc h o
theorem MapAt.lt {w : World} {g : Nat} {m : Names} (h : MapAt w g m) : g < w.heap.size := World.ownsMap.lt h
structure PMok (pm : PM) : Prop where
  src : pm.src.size ≤ maxLen
  dst : pm.dst.size ≤ maxLen
  file : (Lit.int .i64 pm.file).wf = true
def aggM (pm : PM) : Value := .agg #[.string pm.src, .string pm.dst, .int .i64 pm.file]
set_option maxHeartbeats 1000000 in
theorem done_calls {w : World} {g : Nat} {m : Names} (pm : PM) (hm : MapAt w g m) (hp : PMok pm) (hl : m.length < maxLen) :
    Calls Try.prog 41 #[aggM pm, .map (some g)] w fun e w' => e = .returned (.tuple #[]) ∧ MapAt w' g (doneN pm m) ∧ w.grownBy w' (some g) := by
  obtain ⟨src, dst, file⟩ := pm
  obtain ⟨h1, h2, h3⟩ := hp
  have hld := length_del m src
  have HL := Lib.hid (show (delN m src).length < maxLen by omega)
  have HG := Lib.hid hm.lt
  clear hl hld
  unfold aggM
  have hall := Lib.hid (World.grownBy_alloc w (.cells #[.string src, .string dst, .int .i64 file] 69) (some g))
  by_cases htd : dst.data.toList = []
  · have hto : dst.toList = [] := by rw [ByteArray.toList_eq]; exact htd
    have hto2 : (!dst.toList.isEmpty) = false := by rw [hto]; rfl
    have e : doneN ⟨src, dst, file⟩ m = delN m src := by unfold doneN; rw [if_pos htd]
    rw [e]
    clear e htd
    go_enter Try.func41, Try.ntmps41
    go_wp2_with (first
      | (at_delete; refine wp_del _ (hm.alloc _) h1 rfl _ _ rfl rfl rfl ?_; intro w1 hm1 hg1; have hb1 := blk_grown (blk_new w (.cells #[.string src, .string dst, .int .i64 file] 69)) hg1 (fun e => by injection e with e; have := HG.out; omega); have b1 : w1.cell? ⟨w.heap.size, 1, none⟩ = some (.string dst) := (blk_cell hb1 1).trans rfl; clear hb1))
    go_end0
    exact ⟨rfl, hm1, World.grownBy.andThen hall.out hg1 (fun j hj => .inr hj)⟩
  · have hto : ¬ dst.toList = [] := by rw [ByteArray.toList_eq]; exact htd
    have hto2 : (!dst.toList.isEmpty) = true := by cases h : dst.toList with | nil => exact absurd h hto | cons a b => rfl
    have e : doneN ⟨src, dst, file⟩ m = putN (delN m src) dst file := by unfold doneN; rw [if_neg htd]
    rw [e]
    clear e htd
    go_enter Try.func41, Try.ntmps41
    go_wp2_with (first
      | (at_delete; refine wp_del _ (hm.alloc _) h1 rfl _ _ rfl rfl rfl ?_; intro w1 hm1 hg1; have hb1 := blk_grown (blk_new w (.cells #[.string src, .string dst, .int .i64 file] 69)) hg1 (fun e => by injection e with e; have := HG.out; omega); have b1 : w1.cell? ⟨w.heap.size, 1, none⟩ = some (.string dst) := (blk_cell hb1 1).trans rfl; have b2 : w1.cell? ⟨w.heap.size, 2, none⟩ = some (.int .i64 file) := (blk_cell hb1 2).trans rfl; clear hb1)
      | (at_mapUpdate; refine wp_put _ hm1 h2 HL.out h3 rfl _ _ _ rfl rfl rfl rfl ?_; intro w2 hm2 hg2))
    go_end0
    exact ⟨rfl, hm2, World.grownBy.andThen (World.grownBy.andThen hall.out hg1 (fun j hj => .inr hj)) hg2 (fun j hj => .inr hj)⟩
end Go.Proofs.Ytolbicncdookmaa.XDsk
