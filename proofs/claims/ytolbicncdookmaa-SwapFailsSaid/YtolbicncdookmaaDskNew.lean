/- The disk's New. Conditions: none. -/
import Derived.Test.YtolbicncdookmaaDskRead

namespace Go.Proofs.Ytolbicncdookmaa.XDsk
open Go Go.RowKit Go.Maps Go.Sort Go.Shelf Go.Proofs.YtolbicncdookmaaW.PrintWords Go.Proofs.YtolbicncdookmaaW.PrintLast Go.Proofs.YtolbicncdookmaaW.PrintMore Go.Proofs.Ytolbicncdookmaa.Num
attribute [local go_sem] max2_int min2_int max_two min_two
set_option linter.unusedVariables false
set_option linter.unusedSimpArgs false
variable {B B' b : Nat} {w w1 w2 : World} {L L1 : Lay} {S S1 : PD}
theorem row_weaken {base base' : Nat} {e : TypeId} {size n : Nat} {v : Value} {xs : List Value} (h : w.ownsRow base e size v n xs) (hb : base' ≤ base) : w.ownsRow base' e size v n xs := by
  refine ⟨h.1, ?_⟩
  rcases h.2 with hn | ⟨g, cap, cur, hv, hbg, rest⟩
  · exact .inl hn
  · exact .inr ⟨g, cap, cur, hv, Nat.le_trans hb hbg, rest⟩
theorem DskL.weaken (h : DskL B w L b S) (hb : B' ≤ B) : DskL B' w L b S :=
  ⟨Nat.le_trans hb h.ge, h.box, ⟨Nat.le_trans hb h.geN.1, Nat.le_trans hb h.geN.2.1, h.geN.2.2⟩, h.names, h.base, row_weaken h.files hb, h.len, fun i p f hp hf => ⟨Nat.le_trans hb (h.each i p f hp hf).ge, (h.each i p f hp hf).blk, row_weaken (h.each i p f hp hf).row hb⟩, h.apart, row_weaken h.moves hb⟩
/-- A new disk, of the call's own. -/
def NewAt (w : World) (S : PD) (e : Ending) (w' : World) : Prop := ∃ b L, e = .returned (.pointer (some ⟨b, 0, none⟩)) ∧ DskL w.heap.size w' L b S ∧ Below w.heap.size w w'
theorem map_made (w : World) (g : Nat) (h : w.heap[g]? = some (.map #[] 0)) : MapAt w g [] := by
  have h0 := World.ownsMap_made (H := Unit) w Try.prog 9 (plainElem Try.prog 3)
  obtain ⟨es, c, hb, F, hs, hD⟩ := h0
  have e1 : (w.alloc (.map #[] 0)).heap[w.heap.size]? = some (.map #[] 0) := blk_new w _
  rw [e1] at hb
  injection hb with hb
  injection hb with e2 e3
  subst e2 e3
  exact ⟨#[], 0, h, F, hs, hD⟩
theorem new_disk (w : World) (r : Int) : DskL w.heap.size (((w.alloc (.map #[] 0)).alloc (.map #[] 0)).alloc (.cells #[.int .i64 r, .slice none 0 0, .map (some w.heap.size), .map (some (w.heap.size + 1)), .slice none 0 0, .int .i64 0, .int .i64 0, .int .i64 (-1)] 59)) ⟨w.heap.size, w.heap.size + 1, .slice none 0 0, .slice none 0 0, []⟩ (w.heap.size + 2) { room := r, files := [], names := [], base := [], moves := [], ops := 0, fail := 0, left := -1 } := by
  have h1 := blk_new w (.map #[] 0)
  have h2 : ((w.alloc (.map #[] 0)).alloc (.map #[] 0)).heap[w.heap.size + 1]? = some (.map #[] 0) := by have := blk_new (w.alloc (.map #[] 0)) (.map #[] 0); simpa using this
  have h3 := blk_new ((w.alloc (.map #[] 0)).alloc (.map #[] 0)) (.cells #[.int .i64 r, .slice none 0 0, .map (some w.heap.size), .map (some (w.heap.size + 1)), .slice none 0 0, .int .i64 0, .int .i64 0, .int .i64 (-1)] 59)
  refine ⟨by omega, ?_, ⟨Nat.le_refl _, by show w.heap.size ≤ w.heap.size + 1; omega, by show w.heap.size ≠ w.heap.size + 1; omega⟩, map_made _ _ (blk_alloc (blk_alloc h1 _) _), map_made _ _ (blk_alloc h2 _), World.ownsRow_nil _ _ _ _, rfl, fun i p f hp hf => by simp at hp, fun i j p q hp hq => by simp at hp, World.ownsRow_nil _ _ _ _⟩
  simpa [boxV] using h3
set_option maxHeartbeats 1000000 in
theorem new_calls (w : World) (room : Int) : Calls Try.prog 11 #[.int .i64 room] w (NewAt w (newD room)) := by
  have hmm := @run_makeMap Try.prog
  rcases Int.lt_or_le room 0 with hn | hn
  all_goals
    go_enter Try.func11, Try.ntmps11
    go_wp2
    go_ret
  · have e : newD room = { room := 0, files := [], names := [], base := [], moves := [], ops := 0, fail := 0, left := -1 } := by unfold newD; rw [Int.max_eq_right (by omega)]
    rw [e]
    exact ⟨_, _, rfl, new_disk w 0, (((Below.refl _ _).alloc (Nat.le_refl _) _).alloc (by simp) _).alloc (by simp; omega) _⟩
  · have e : newD room = { room := room, files := [], names := [], base := [], moves := [], ops := 0, fail := 0, left := -1 } := by unfold newD; rw [Int.max_eq_left hn]
    rw [e]
    exact ⟨_, _, rfl, new_disk w room, (((Below.refl _ _).alloc (Nat.le_refl _) _).alloc (by simp) _).alloc (by simp; omega) _⟩
end Go.Proofs.Ytolbicncdookmaa.XDsk
