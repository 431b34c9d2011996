/- What sample.Take answers: the samples that bytes begin with, and the rest; and that the code comes to it. Conditions: a text as long as texts are. -/
import Derived.Test.YthaegbiblblccaaGreatDoorSmpLib
import Derived.Test.YthaegbiblblccaaGreatDoorSmpGlue0
import Derived.Test.YthaegbiblblccaaGreatDoorSmpNumB
import Derived.Test.YthaegbiblblccaaGreatDoorClos
import Derived.Test.YthaegbiblblccaaGreatDoorGSamplePut
import Derived.Deep.RegionHeld3
import Derived.Deep.LoopGhost
import Derived.Deep.DeepCutAuto
import Derived.Deep.CutBlock
import Derived.Lib.Hide
import Derived.Outline
import Derived.Test.YthaegbiblblccaaGreatDoorXEntP1
import Derived.Test.YthaegbiblblccaaGreatDoorXEntP2
namespace Go.Proofs.YthaegbiblblccaaGreatDoor.XEnt
open Go.RowKit Go.Proofs.YthaegbiblblccaaGreatDoorW.PrintWords Go.Proofs.YthaegbiblblccaaGreatDoorW.PrintLast Go.Proofs.YthaegbiblblccaaGreatDoorW.PrintMore Go.Proofs.YthaegbiblblccaaGreatDoor.Num
set_option linter.unusedVariables false
set_option linter.unusedSimpArgs false

def sample_Take.f (a0 : ByteArray) : Option (List S54 × ByteArray × Int) := if a0.size ≤ 140737488351232 then some (Smp.takeS (ls a0)) else none
theorem nt (l : List UInt8) (hl : l.length ≤ 140737488351232) (w : World) : Calls Tryz.prog 68 #[.string (bs l)] w fun e w' => e = .returned (.tuple #[.int .u64 (takeP l).1, .string (takeP l).2.1, .int .i64 (takeP l).2.2]) ∧ Drawn0 w w' :=
  num_Take.calls 40 (bs l) _ _ _ w (take_f hl (by omega))
theorem nti (l : List UInt8) (hl : l.length ≤ 140737488351232) (w : World) : Calls Tryz.prog 70 #[.string (bs l)] w fun e w' => e = .returned (.tuple #[.int .i64 (takeIP l).1, .string (takeIP l).2.1, .int .i64 (takeIP l).2.2]) ∧ Drawn0 w w' :=
  num_TakeInt.calls 40 (bs l) _ _ _ w (takeInt_f hl (by omega))
theorem dec_len {l r : List UInt8} {n : Nat} (h : dec 0 l = some (n, r)) : r.length ≤ l.length := by
  obtain ⟨e, _⟩ := dec_some h
  rw [e]; simp
theorem take_bad (l : List UInt8) (hl : l.length ≤ 140737488351232) (w : World) (hb : dec 0 l = none) :
    Calls Tryz.prog 53 #[.string (bs l)] w fun e w' => e = .returned (.tuple #[.slice none 0 0, .string (bs []), .int .i64 2]) ∧ Drawn0 w w' := by
  have ht := fun w => nt l hl w
  rw [takeP_none hb] at ht
  go_enter Tryz.func53, Tryz.ntmps53
  go_wp2_with (go_at_call 68; refine (ht _).mono ?_; rintro e w1 ⟨rfl, hb1⟩)
  go_ret3
  exact ⟨rfl, hb1⟩
theorem take_none (l r : List UInt8) (n : Nat) (hl : l.length ≤ 140737488351232) (w : World) (hb : dec 0 l = some (n, r)) (hn : n = 0 ∨ 20 < n) :
    Calls Tryz.prog 53 #[.string (bs l)] w fun e w' => e = .returned (.tuple #[.slice none 0 0, .string (bs []), .int .i64 2]) ∧ Drawn0 w w' := by
  have ht := fun w => nt l hl w
  unfold takeP at ht
  simp only [hb] at ht
  rcases hn with rfl | hn
  · go_enter Tryz.func53, Tryz.ntmps53
    go_wp2_with (go_at_call 68; refine (ht _).mono ?_; rintro e w1 ⟨rfl, hb1⟩)
    go_ret3
    exact ⟨rfl, hb1⟩
  · have h0 : ((n : Int) == 0) = false := beq_eq_false_iff_ne.2 (by omega)
    have h1 : decide (20 < (n : Int)) = true := decide_eq_true (by omega)
    go_enter Tryz.func53, Tryz.ntmps53
    go_wp2_with (go_at_call 68; refine (ht _).mono ?_; rintro e w1 ⟨rfl, hb1⟩)
    go_ret3
    exact ⟨rfl, hb1⟩
/-- What is told of it, when so many rows are to come. -/
def endS (m : Nat) (at' step v : Int) (o : List S54) (l : List UInt8) : List S54 × ByteArray × Int := match Smp.pairs m at' step v l with
  | none => ([], bs [], 2)
  | some (p, u) => if Smp.chk (o ++ p) = 0 then (o ++ p, bs u, 0) else ([], bs [], 2)
/-- Ahead of the loop: the first row's box, the list. -/
structure T0 (w : World) (h : Nat) (A V : Int) (v : Value) (W : World) : Prop where
  below : Below w.heap.size w W
  ge : w.heap.size ≤ h
  x : W.heap[h]? = some (.cells #[.int .u64 A, .int .i64 V] 54 (0, 0))
  own : Kd.R k54 54 W w.heap.size (fun _ => True) v [⟨A, V⟩]
theorem T0.step {w : World} {h : Nat} {A V : Int} {v : Value} {W W' : World} (t : T0 w h A V v W) (hb : Below W.heap.size W W') : T0 w h A V v W' :=
  ⟨below_step t.below hb, t.ge, blkS_below hb t.x, Kd.R_below t.own hb⟩
theorem T0.drew {w : World} {h : Nat} {A V : Int} {v : Value} {W : World} (t : T0 w h A V v W) : T0 w h A V v W.drew := t.step (below_drew (Below.refl _ _))
theorem T0.alloc {w : World} {h : Nat} {A V : Int} {v : Value} {W : World} (t : T0 w h A V v W) (o : Obj) : T0 w h A V v (W.alloc o) := t.step (below_alloc (Below.refl _ _) o)
theorem T0.cells {w : World} {h : Nat} {A V : Int} {v : Value} {W : World} (t : T0 w h A V v W) : W.cell? ⟨h, 0, none⟩ = some (.int .u64 A) ∧ W.cell? ⟨h, 1, none⟩ = some (.int .i64 V) :=
  ⟨by rw [Lib.cell_of_heap t.x]; rfl, by rw [Lib.cell_of_heap t.x]; rfl⟩
/-- In the loop: the closures' numbers, the list. -/
structure Tk (w : World) (g : Nat) (vo : Value) (o : List S54) (p s v : Int) (W : World) : Prop where
  below : Below w.heap.size w W
  ge : w.heap.size ≤ g
  b0 : W.heap[g]? = some (.cells #[.int .i64 p] 2 (0, 0))
  b1 : W.heap[g + 1]? = some (.cells #[.int .i64 s] 2 (0, 0))
  b2 : W.heap[g + 1 + 1]? = some (.cells #[.int .i64 v] 2 (0, 0))
  own : Kd.R k54 54 W w.heap.size (fun _ => True) vo o
theorem ne2 : ∀ q, q ∈ 54 :: (k54).E → q ≠ 2 := by decide
section
variable {w : World} {g : Nat} {vo : Value} {o : List S54} {p s v : Int} {W W' : World}
theorem Tk.step (h : Tk w g vo o p s v W) (hb : Below W.heap.size W W') : Tk w g vo o p s v W' :=
  ⟨below_step h.below hb, h.ge, blkS_below hb h.b0, blkS_below hb h.b1, blkS_below hb h.b2, Kd.R_below h.own hb⟩
theorem Tk.drew (h : Tk w g vo o p s v W) : Tk w g vo o p s v W.drew := h.step (below_drew (Below.refl _ _))
theorem Tk.alloc (h : Tk w g vo o p s v W) (x : Obj) : Tk w g vo o p s v (W.alloc x) := h.step (below_alloc (Below.refl _ _) x)
theorem Tk.call0 (h : Tk w g vo o p s v W) (n : Int) :
    Calls Tryz.prog 82 #[.int .i64 n, .pointer (some ⟨g, 0, none⟩)] W fun e W' => e = .returned (.int .i64 (wrap64 (p + n))) ∧ Tk w g vo o (wrap64 (p + n)) s v W' := by
  refine (Clos.sum g n p W (by rw [Lib.cell_of_heap h.b0]; rfl) (Lib.frozen_of_heap h.b0 0)).mono ?_
  rintro e W' ⟨rfl, rfl⟩
  exact ⟨rfl, h.below.setCell (p := ⟨g, 0, none⟩) h.ge _, h.ge, heap_setCell_same W g 0 _ _ _ h.b0, blk_set h.b1 (by simp), blk_set h.b2 (by simp; omega), Kd.R_set h.own h.b0 ne2 0 _⟩
theorem Tk.call1 (h : Tk w g vo o p s v W) (n : Int) :
    Calls Tryz.prog 82 #[.int .i64 n, .pointer (some ⟨g + 1, 0, none⟩)] W fun e W' => e = .returned (.int .i64 (wrap64 (s + n))) ∧ Tk w g vo o p (wrap64 (s + n)) v W' := by
  refine (Clos.sum (g + 1) n s W (by rw [Lib.cell_of_heap h.b1]; rfl) (Lib.frozen_of_heap h.b1 0)).mono ?_
  rintro e W' ⟨rfl, rfl⟩
  have hg := h.ge
  exact ⟨rfl, h.below.setCell (p := ⟨g + 1, 0, none⟩) (by simp; omega) _, h.ge, blk_set h.b0 (by simp), heap_setCell_same W (g + 1) 0 _ _ _ h.b1, blk_set h.b2 (by simp), Kd.R_set h.own h.b1 ne2 0 _⟩
theorem Tk.call2 (h : Tk w g vo o p s v W) (n : Int) :
    Calls Tryz.prog 82 #[.int .i64 n, .pointer (some ⟨g + 1 + 1, 0, none⟩)] W fun e W' => e = .returned (.int .i64 (wrap64 (v + n))) ∧ Tk w g vo o p s (wrap64 (v + n)) W' := by
  refine (Clos.sum (g + 1 + 1) n v W (by rw [Lib.cell_of_heap h.b2]; rfl) (Lib.frozen_of_heap h.b2 0)).mono ?_
  rintro e W' ⟨rfl, rfl⟩
  have hg := h.ge
  exact ⟨rfl, h.below.setCell (p := ⟨g + 1 + 1, 0, none⟩) (by simp; omega) _, h.ge, blk_set h.b0 (by simp; omega), blk_set h.b1 (by simp), heap_setCell_same W (g + 1 + 1) 0 _ _ _ h.b2, Kd.R_set h.own h.b2 ne2 0 _⟩
/-- A row more. -/
theorem Tk.append (h : Tk w g vo o p s v W) {vo' : Value} {o' : List S54} (ho : Kd.R k54 54 W' w.heap.size (fun _ => True) vo' o') (hb : Below w.heap.size w W') (hg : W.grownBy W' vo.ownBlock) : Tk w g vo' o' p s v W' := by
  have one : ∀ {k : Nat} {c : Array Value}, W.heap[k]? = some (.cells c 2 (0, 0)) → W'.heap[k]? = some (.cells c 2 (0, 0)) := fun hk =>
    (hg.block _ (Array.getElem?_eq_some_iff.1 hk).1 (Kd.R_ne h.own hk (by decide))).trans hk
  exact ⟨hb, h.ge, one h.b0, one h.b1, one h.b2, ho⟩
end
theorem boxed {w w1 : World} (hb : Below w.heap.size w w1) (m : Nat) (A : Int) :
    Below w.heap.size w (((w1.alloc (.cells #[.int .u64 0, .int .i64 0] 54)).drewN m).setCell ⟨w1.heap.size, 0, none⟩ (.int .u64 A)) ∧
      (((w1.alloc (.cells #[.int .u64 0, .int .i64 0] 54)).drewN m).setCell ⟨w1.heap.size, 0, none⟩ (.int .u64 A)).heap[w1.heap.size]? = some (.cells #[.int .u64 A, .int .i64 0] 54 (0, 0)) := by
  have h1 : ((w1.alloc (.cells #[.int .u64 0, .int .i64 0] 54)).drewN m).heap[w1.heap.size]? = some (.cells #[.int .u64 0, .int .i64 0] 54 (0, 0)) :=
    blkS_below (pw_below_drewN (Below.refl _ _) m) (heap_alloc_new w1 _)
  exact ⟨(below_step hb (pw_below_drewN (below_alloc (Below.refl _ _) _) m)).setCell (p := ⟨w1.heap.size, 0, none⟩) hb.size _, heap_setCell_same _ _ 0 _ _ _ h1⟩
theorem boxed2 {w W : World} {h : Nat} {A : Int} (hb : Below w.heap.size w W) (hh : w.heap.size ≤ h) (hx : W.heap[h]? = some (.cells #[.int .u64 A, .int .i64 0] 54 (0, 0))) (m : Nat) (V : Int) :
    Below w.heap.size w ((W.drewN m).setCell ⟨h, 1, none⟩ (.int .i64 V)) ∧ ((W.drewN m).setCell ⟨h, 1, none⟩ (.int .i64 V)).heap[h]? = some (.cells #[.int .u64 A, .int .i64 V] 54 (0, 0)) :=
  ⟨(below_step hb (pw_below_drewN (Below.refl _ _) m)).setCell (p := ⟨h, 1, none⟩) hh _, heap_setCell_same _ _ 1 _ _ _ (blkS_below (pw_below_drewN (Below.refl _ _) m) hx)⟩
theorem tki (r : List UInt8) (hr : r.length ≤ 140737488351232) : ∃ (V e : Int) (q : List UInt8), (∀ w, Calls Tryz.prog 70 #[.string (bs r)] w fun e' w' => e' = .returned (.tuple #[.int .i64 V, .string (bs q), .int .i64 e]) ∧ Drawn0 w w') ∧ q.length ≤ r.length ∧
    ((e = 0 ∧ ∃ m, V = zag m ∧ dec 0 r = some (m, q)) ∨ (e = 2 ∧ dec 0 r = none)) := by
  have h2 := fun w => nti r hr w
  unfold takeIP at h2
  rcases hd : dec 0 r with _ | ⟨m, q⟩
  · simp only [hd] at h2
    exact ⟨_, _, [], h2, by simp, .inr ⟨rfl, rfl⟩⟩
  · simp only [hd] at h2
    exact ⟨_, _, q, h2, dec_len hd, .inl ⟨rfl, m, rfl, rfl⟩⟩
theorem takeS_eq (l : List UInt8) : Smp.takeS l = match dec 0 l with
    | none => ([], bs [], 2)
    | some (n, r) => if n = 0 ∨ 20 < n then ([], bs [], 2) else match dec 0 r with
      | none => ([], bs [], 2)
      | some (a, q) => match dec 0 q with
        | none => ([], bs [], 2)
        | some (v, t) => endS (n - 1) (wrap64 (a : Int)) 0 (zag v) [⟨(a : Int), zag v⟩] t := by
  unfold Smp.takeS Smp.taken endS
  rcases dec 0 l with _ | ⟨n, r⟩
  · rfl
  · simp only
    by_cases hn : n = 0 ∨ 20 < n
    · rw [if_pos hn, if_pos hn]
    · rw [if_neg hn, if_neg hn]
      rcases dec 0 r with _ | ⟨a, q⟩
      · rfl
      · simp only
        rcases dec 0 q with _ | ⟨v, t⟩
        · rfl
        · simp only
          rcases Smp.pairs (n - 1) (wrap64 (a : Int)) 0 (zag v) t with _ | ⟨o, u⟩
          · rfl
          · simp only [List.cons_append, List.nil_append]
            by_cases hc : Smp.chk (⟨(a : Int), zag v⟩ :: o) = 0
            · rw [if_pos hc, if_pos hc]
            · rw [if_neg hc, if_neg hc]
theorem endS_step (m : Nat) (p s v : Int) (o : List S54) (l q r : List UInt8) (a b : Nat) (h1 : dec 0 l = some (a, q)) (h2 : dec 0 q = some (b, r)) :
    endS (m + 1) p s v o l = endS m (wrap64 (p + wrap64 (s + zag a))) (wrap64 (s + zag a)) (wrap64 (v + zag b)) (o ++ [⟨IntKind.u64.wrap (wrap64 (p + wrap64 (s + zag a))), wrap64 (v + zag b)⟩]) r := by
  unfold endS
  simp only [Smp.pairs, h1, h2]
  rcases Smp.pairs m (wrap64 (p + wrap64 (s + zag a))) (wrap64 (s + zag a)) (wrap64 (v + zag b)) r with _ | ⟨x, u⟩
  · rfl
  · simp only [Option.map_some, List.append_assoc, List.cons_append, List.nil_append]
theorem endS_none1 (m : Nat) (p s v : Int) (o : List S54) (l : List UInt8) (h1 : dec 0 l = none) : endS (m + 1) p s v o l = ([], bs [], 2) := by
  unfold endS
  simp only [Smp.pairs, h1]
theorem endS_none2 (m : Nat) (p s v : Int) (o : List S54) (l q : List UInt8) (a : Nat) (h1 : dec 0 l = some (a, q)) (h2 : dec 0 q = none) : endS (m + 1) p s v o l = ([], bs [], 2) := by
  unfold endS
  simp only [Smp.pairs, h1, h2]
set_option maxHeartbeats 4000000 in
set_option maxRecDepth 100000 in
theorem take_good (l r : List UInt8) (n : Nat) (hl : l.length ≤ 140737488351232) (w : World) (hb : dec 0 l = some (n, r)) (hn : 0 < n ∧ n ≤ 20) :
    Calls Tryz.prog 53 #[.string (bs l)] w fun e w' => ∃ v0_ : Value, e = .returned (.tuple #[v0_, .string (Smp.takeS l).2.1, .int .i64 (Smp.takeS l).2.2]) ∧ Kd.R k54 54 w' w.heap.size (fun _ => True) v0_ (Smp.takeS l).1 ∧ Below w.heap.size w w' := by
  have ht := fun w => nt l hl w
  unfold takeP at ht
  simp only [hb] at ht
  have h0 : ((n : Int) == 0) = false := beq_eq_false_iff_ne.2 (by omega)
  have h1 : decide (20 < (n : Int)) = false := decide_eq_false (by omega)
  have hn32 : IntKind.i64.wrap (n : Int) = (n : Int) := by rw [i64_w]; exact w64_id (by omega) (by omega)
  have hrl := dec_len hb
  have htr : ∃ (A e : Int) (ρ : List UInt8), (∀ w, Calls Tryz.prog 68 #[.string (bs r)] w fun e' w' => e' = .returned (.tuple #[.int .u64 A, .string (bs ρ), .int .i64 e]) ∧ Drawn0 w w') ∧ ρ.length ≤ l.length ∧
      ((e = 0 ∧ ∃ m, A = ((m : Nat) : Int) ∧ dec 0 r = some (m, ρ)) ∨ (e = 2 ∧ dec 0 r = none)) := by
    have h2 := fun w => nt r (by omega) w
    unfold takeP at h2
    rcases hd : dec 0 r with _ | ⟨m, q⟩
    · simp only [hd] at h2
      exact ⟨_, _, [], h2, by simp, .inr ⟨rfl, rfl⟩⟩
    · simp only [hd] at h2
      have := dec_len hd
      exact ⟨_, _, q, h2, by omega, .inl ⟨rfl, m, rfl, rfl⟩⟩
  obtain ⟨A, e1, ρ, htr, hρ, hc⟩ := htr
  have HC := Lib.hid hc; clear hc
  have HBD := Lib.hid hb; clear hb
  go_enter Tryz.func53, Tryz.ntmps53
  go_upto_if 39 with (first
    | (go_at_call 68; (with_reducible refine (ht _).mono ?_); rintro e w1 ⟨rfl, hb1⟩)
    | (go_at_call 68; (with_reducible refine (htr _).mono ?_); rintro e w2 ⟨rfl, ⟨m2, rfl⟩⟩))
  have hbw := hb1.below
  clear hb1
  go_cut [6, 7] (fun v6 v7 wc => ∃ (q : List UInt8) (e V : Int), v6 = .string (bs q) ∧ v7 = .int .i64 e ∧ Aside0 (q.length ≤ l.length) ∧ Aside0 ((e = 0 ∧ Smp.takeS l = endS (n - 1) (wrap64 A) 0 V [⟨A, V⟩] q) ∨ (e = 2 ∧ Smp.takeS l = ([], bs [], 2))) ∧ Aside0 (Below w.heap.size w wc) ∧ Aside0 (wc.heap[w1.heap.size]? = some (.cells #[.int .u64 A, .int .i64 V] 54 (0, 0))))
  case first =>
    have hbx := boxed hbw m2 A
    have HBX := Lib.hid hbx; clear hbx
    have hts := takeS_eq l
    rw [HBD.out] at hts
    simp only at hts
    rw [if_neg (by omega)] at hts
    have HTS := Lib.hid hts; clear hts
    have hh := hbw.size
    by_cases h0 : e1 = 0
    · subst h0
      obtain ⟨m, hm, hd⟩ : ∃ m, A = ((m : Nat) : Int) ∧ dec 0 r = some (m, ρ) := by
        rcases HC.out with ⟨_, h⟩ | ⟨h, _⟩
        · exact h
        · cases h
      obtain ⟨V, e2, q, hq, hql, hqc⟩ := tki ρ (by omega)
      have HQC := Lib.hid hqc; clear hqc
      have HM := Lib.hid hm; clear hm
      go_wp2_with (go_at_call 70; (with_reducible refine (hq _).mono ?_); rintro e w2 ⟨rfl, ⟨m3, rfl⟩⟩)
      go_meet
      case rel =>
        have hx2 := boxed2 HBX.out.1 hh HBX.out.2 m3 V
        refine ⟨q, e2, V, rfl, rfl, ⟨by omega⟩, ⟨?_⟩, ⟨hx2.1⟩, ⟨hx2.2⟩⟩
        have hts := HTS.out
        rw [hd] at hts
        simp only at hts
        rcases HQC.out with ⟨h1, m', h2, h3⟩ | ⟨h1, h3⟩
        · left
          rw [h3] at hts
          exact ⟨h1, by rw [hts, HM.out, h2]⟩
        · right
          rw [h3] at hts
          exact ⟨h1, hts⟩
    · have h2 : e1 = 2 ∧ dec 0 r = none := by
        rcases HC.out with ⟨h, _⟩ | h
        · exact absurd h h0
        · exact h
      have hb1 : (e1 == 0) = false := beq_eq_false_iff_ne.2 h0
      have H2 := Lib.hid h2; clear h2
      go_wp2
      go_meet
      case rel =>
        refine ⟨ρ, e1, 0, rfl, rfl, ⟨by omega⟩, ⟨?_⟩, ⟨HBX.out.1⟩, ⟨HBX.out.2⟩⟩
        have hts := HTS.out
        rw [H2.out.2] at hts
        exact .inr ⟨H2.out.1, hts⟩
  case rest =>
    obtain ⟨q, e, V, rfl, rfl, HQ, HE, HB, HX⟩ := hcut
    have hh := hbw.size
    clear hbw HC HBD htr ht
    generalize w1.heap.size = h at HX hh ⊢
    have hx0 : wc.cell? ⟨h, 0, none⟩ = some (.int .u64 A) := by rw [Lib.cell_of_heap HX.out]; rfl
    have hx1 : wc.cell? ⟨h, 1, none⟩ = some (.int .i64 V) := by rw [Lib.cell_of_heap HX.out]; rfl
    go_wp2_with ((with_reducible refine gate_dst (N := 48) rfl ?_); refine Kd.R_lit k54 _ 54 ?hg (N := 48) ?hd (xs := ([(⟨A, V⟩ : S54)] : List (S54))) (inner := [.int .u64 A, .int .i64 V]) (ok := fun _ => True) (okp := fun _ => True) ?hr ?hp (fun _ hk => hk) trivial (Below.refl _ _) (Nat.le_refl _) (by simp) ?_; (case hd => rfl); (case hg => rfl); (case hr => first | (go_simp; done) | (go_simp; rfl)); (case hp => exact (Reps.c2 (show Kd.M k54 _ _ _ (⟨A, V⟩ : S54) [.int .u64 A, .int .i64 V] from (k54_mkM _ _ _ (⟨A, V⟩ : S54) )) (Reps.none _ _))); intro vo w15 ho16 hb hg_ hnew_; clear hg_ hnew_; have HO := Aside0.mk ho16; have HB2 := Aside0.mk hb; clear ho16 hb)
    have hT : T0 w h A V vo w15 := ⟨below_step HB.out HB2.out, hh, blkS_below HB2.out HX.out, Kd.R_lower HO.out HB.out.size⟩
    clear HO HB2 HB HX hx0 hx1
    go_region_held3 (fun W => W.cell? ⟨h, 0, none⟩ = some (.int .u64 A) ∧ W.cell? ⟨h, 1, none⟩ = some (.int .i64 V))
      (exact T0.cells (w := w) (v := vo) (by repeat (first | exact hT | apply T0.drew | apply T0.alloc)))
      (first
        | (go_at_call 71; refine (Clos.sums _ _).mono ?_; rintro e w3 ⟨rfl, rfl⟩))
    go_wp2
    have hg0 := hT.below.size
    rw [i64_w A]
    have h3 := three_new w15 (.cells #[.int .i64 (wrap64 A)] 2) (.cells #[.int .i64 0] 2) (.cells #[.int .i64 V] 2)
    generalize w15.heap.size = g at hg0 h3 ⊢
    have H3 := Lib.hid h3; clear h3
    go_loopg [6, 7, 9] n (fun k v6 v7 v9 W => ∃ (q : List UInt8) (e p s v : Int) (o : List S54), v6 = .string (bs q) ∧ v7 = .int .i64 e ∧ Aside0 (k + o.length = n + 1 ∧ 1 ≤ o.length ∧ o.length ≤ n) ∧ Aside0 (q.length ≤ l.length) ∧ Aside0 ((e = 0 ∧ Smp.takeS l = endS (n - o.length) p s v o q) ∨ (e = 2 ∧ Smp.takeS l = ([], bs [], 2))) ∧ Aside0 (Tk w g v9 o p s v W))
    case atStart =>
      have h3 := H3.out
      have hT3 : T0 w h A V vo (((w15.alloc (.cells #[.int .i64 (wrap64 A)] 2)).alloc (.cells #[.int .i64 0] 2)).alloc (.cells #[.int .i64 V] 2)).drew := (((hT.alloc _).alloc _).alloc _).drew
      exact ⟨q, e, wrap64 A, 0, V, [⟨A, V⟩], rfl, rfl, ⟨by simp; omega⟩, HQ, HE, ⟨⟨hT3.below, hg0, h3.1, h3.2.1, h3.2.2, hT3.own⟩⟩⟩
    case round =>
      clear hT HQ HE hg0
      obtain ⟨q, e, p, s, v, o, rfl, rfl, HK, HQ, HE, HT⟩ := hrel
      obtain ⟨Ao, co, rfl⟩ := Kd.R_slice HT.out.own
      have hqq : q.length ≤ l.length := HQ.out
      rcases HE.out with ⟨rfl, hs⟩ | ⟨rfl, hs⟩
      · have HS := Lib.hid hs; clear hs HE
        by_cases c1 : o.length < n
        · have c1b : decide ((o.length : Int) < (n : Int)) = true := decide_eq_true (by omega)
          replace HT := HT.out
          obtain ⟨a, e1, q1, hq1, hl1, hc1⟩ := tki q (by omega)
          have HC1 := Lib.hid hc1; clear hc1
          obtain ⟨m, hm⟩ : ∃ m, n - o.length = m + 1 := ⟨n - o.length - 1, by omega⟩
          rw [hm] at HS
          have hnm : n = o.length + m + 1 := by omega
          have HM := Lib.hid hnm; clear hnm hm
          by_cases c3 : e1 = 0
          · subst c3
            obtain ⟨b, e2, q2, hq2, hl2, hc2⟩ := tki q1 (by omega)
            have HC2 := Lib.hid hc2; clear hc2
            go_wp2_with (first
              | (go_at_call 70; (with_reducible refine (hq1 _).mono ?_); rintro e w2 ⟨rfl, hb⟩; have n0_ := Tk.step HT hb.below; clear HT hb; have HT := n0_; clear n0_)
              | (go_at_call 70; (with_reducible refine (hq2 _).mono ?_); rintro e w2 ⟨rfl, hb⟩; have n0_ := Tk.step HT hb.below; clear HT hb; have HT := n0_; clear n0_)
              | (go_at_call 82
                 first
                   | with_reducible refine (Tk.call1 HT _).mono ?_
                   | with_reducible refine (Tk.call0 HT _).mono ?_
                   | with_reducible refine (Tk.call2 HT _).mono ?_
                 rintro e w2 ⟨rfl, hT2⟩; clear HT; have HT := hT2; clear hT2)
              | ((with_reducible refine gate_builtin (b := .append) (xs := #[.tmp 80, .tmp 91]) rfl ?_); at_builtin; refine Kd.R_append k54 (w0 := w) w.heap.size rfl (.tmp 80) (.tmp 91) 23 54 (.agg #[(.int .u64 0), (.int .i64 0)]) 16 rfl Tryz.underlying23 info54 rfl (by decide) (by omega) (.slice Ao o.length co) o (⟨IntKind.u64.wrap (wrap64 (p + wrap64 (s + a))), wrap64 (v + b)⟩ : S54) [.int .u64 (IntKind.u64.wrap (wrap64 (p + wrap64 (s + a)))), .int .i64 (wrap64 (v + b))] (fun _ => True) (fun _ => False) rfl rfl ?aP (fun _ hk => hk.elim) ?aF ?aO ?aB ?aS ?aL ?_; (case aP => exact k54_mkM _ _ _ (⟨IntKind.u64.wrap (wrap64 (p + wrap64 (s + a))), wrap64 (v + b)⟩ : S54)); (case aB => exact HT.below); (case aF => exact (fun _ _ => trivial)); (case aO => exact HT.own); (case aS => exact HT.below.size); (case aL => omega); intro v166 w25 ho hb hg hat; have n0_ := Tk.append HT ho hb hg; clear HT ho hb hg hat; have HT := n0_; clear n0_))
            go_roundg (gk - 1)
            case measure => have := HK.out; omega
            case rel =>
              have h5 := HK.out
              have h6 := HM.out
              refine ⟨q2, e2, _, _, _, _, rfl, rfl, ⟨by simp; omega⟩, ⟨by omega⟩, ⟨?_⟩, ⟨HT⟩⟩
              rw [show n - (o ++ [(⟨IntKind.u64.wrap (wrap64 (p + wrap64 (s + a))), wrap64 (v + b)⟩ : S54)]).length = m by simp; omega]
              rcases HC1.out with ⟨_, ma, rfl, hd1⟩ | ⟨h, _⟩
              · rcases HC2.out with ⟨h2, mb, rfl, hd2⟩ | ⟨h2, hd2⟩
                · exact .inl ⟨h2, by rw [HS.out, endS_step m p s v o q q1 q2 ma mb hd1 hd2]⟩
                · exact .inr ⟨h2, by rw [HS.out, endS_none2 m p s v o q q1 ma hd1 hd2]⟩
              · cases h
          · have c3b : (e1 == 0) = false := beq_eq_false_iff_ne.2 c3
            go_wp2_with (first
              | (go_at_call 70; (with_reducible refine (hq1 _).mono ?_); rintro e w2 ⟨rfl, hb⟩; have n0_ := Tk.step HT hb.below; clear HT hb; have HT := n0_; clear n0_)
              | (go_at_call 82
                 first
                   | with_reducible refine (Tk.call1 HT _).mono ?_
                   | with_reducible refine (Tk.call0 HT _).mono ?_
                   | with_reducible refine (Tk.call2 HT _).mono ?_
                 rintro e w2 ⟨rfl, hT2⟩; clear HT; have HT := hT2; clear hT2)
              | ((with_reducible refine gate_builtin (b := .append) (xs := #[.tmp 80, .tmp 91]) rfl ?_); at_builtin; refine Kd.R_append k54 (w0 := w) w.heap.size rfl (.tmp 80) (.tmp 91) 23 54 (.agg #[(.int .u64 0), (.int .i64 0)]) 16 rfl Tryz.underlying23 info54 rfl (by decide) (by omega) (.slice Ao o.length co) o (⟨IntKind.u64.wrap (wrap64 (p + wrap64 (s + a))), wrap64 v⟩ : S54) [.int .u64 (IntKind.u64.wrap (wrap64 (p + wrap64 (s + a)))), .int .i64 (wrap64 v)] (fun _ => True) (fun _ => False) rfl rfl ?aP (fun _ hk => hk.elim) ?aF ?aO ?aB ?aS ?aL ?_; (case aP => exact k54_mkM _ _ _ (⟨IntKind.u64.wrap (wrap64 (p + wrap64 (s + a))), wrap64 v⟩ : S54)); (case aB => exact HT.below); (case aF => exact (fun _ _ => trivial)); (case aO => exact HT.own); (case aS => exact HT.below.size); (case aL => omega); intro v166 w25 ho hb hg hat; have n0_ := Tk.append HT ho hb hg; clear HT ho hb hg hat; have HT := n0_; clear n0_))
            go_roundg (gk - 1)
            case measure => have := HK.out; omega
            case rel =>
              have h5 := HK.out
              have h6 := HM.out
              refine ⟨q1, e1, _, _, _, _, rfl, rfl, ⟨by simp; omega⟩, ⟨by omega⟩, ⟨?_⟩, ⟨HT⟩⟩
              rcases HC1.out with ⟨h, _⟩ | ⟨h, hd1⟩
              · exact absurd h c3
              · exact .inr ⟨h, by rw [HS.out, endS_none1 m p s v o q hd1]⟩
        · have c1b : decide ((o.length : Int) < (n : Int)) = false := decide_eq_false (by omega)
          have hon : n - o.length = 0 := by omega
          have hC := fun W hr => sample_Check.calls 1003 Ao co o (Smp.chk o) W hr (Kd.R_reads' HT.out.own).2.1 (Smp.check_f o 1003 (by omega))
          have hts : Smp.takeS l = if Smp.chk o = 0 then (o, bs q, 0) else ([], bs [], 2) := by
            rw [HS.out, hon]; unfold endS; simp only [Smp.pairs, List.append_nil]
          have HTS := Lib.hid hts; clear hts
          obtain ⟨z, hz⟩ : ∃ z, Smp.chk o = z := ⟨_, rfl⟩
          rw [hz] at hC
          have HZ := Lib.hid hz; clear hz
          by_cases c2 : z = 0
          · subst c2
            go_wp2_with (go_at_call 33; refine (hC _ (Kd.R_reads' HT.out.own).2.2).mono ?_; rintro e w5 ⟨rfl, hb5⟩)
            go_ret3
            rw [HTS.out, if_pos HZ.out]
            exact ⟨_, rfl, Kd.R_below HT.out.own hb5, below_step HT.out.below hb5⟩
          · have c2a : (z != 0) = true := by rw [bne_iff_ne]; exact c2
            go_wp2_with (go_at_call 33; refine (hC _ (Kd.R_reads' HT.out.own).2.2).mono ?_; rintro e w5 ⟨rfl, hb5⟩)
            go_ret3
            rw [HTS.out, if_neg (by rw [HZ.out]; exact c2)]
            exact ⟨_, rfl, Kd.R_nil _ _ _ _ _, below_step HT.out.below hb5⟩
      · have HS := Lib.hid hs; clear hs HE
        by_cases c1 : o.length < n
        · have c1b : decide ((o.length : Int) < (n : Int)) = true := decide_eq_true (by omega)
          go_wp2
          go_ret3
          rw [HS.out]
          exact ⟨_, rfl, Kd.R_nil _ _ _ _ _, HT.out.below⟩
        · have c1b : decide ((o.length : Int) < (n : Int)) = false := decide_eq_false (by omega)
          go_wp2
          go_ret3
          rw [HS.out]
          exact ⟨_, rfl, Kd.R_nil _ _ _ _ _, HT.out.below⟩
theorem sample_Take.calls (a0 : ByteArray) (r1 : List S54) (r2 : ByteArray) (r3 : Int) (w : World) (h : sample_Take.f a0 = some (r1, r2, r3)) :
    Calls Tryz.prog 53 #[.string a0] w fun e w' => ∃ v0_ : Value, e = .returned (.tuple #[v0_, .string r2, .int .i64 r3]) ∧ Kd.R k54 54 w' w.heap.size (fun _ => True) v0_ r1 ∧ Below w.heap.size w w' := by
  unfold sample_Take.f at h
  by_cases hs : a0.size ≤ 140737488351232
  · rw [if_pos hs] at h
    have h := Option.some.inj h
    obtain ⟨l, rfl⟩ : ∃ l, a0 = bs l := ⟨ls a0, (bs_ls a0).symm⟩
    rw [bs_size] at hs
    rw [ls_bs] at h
    have hT := takeS_eq l
    rcases hd : dec 0 l with _ | ⟨n, r⟩
    · simp only [hd] at hT
      rw [hT] at h
      cases h
      refine (take_bad l hs w hd).mono ?_
      rintro e w' ⟨rfl, hb⟩
      exact ⟨_, rfl, Kd.R_nil _ _ _ _ _, hb.below⟩
    · by_cases hn : n = 0 ∨ 20 < n
      · simp only [hd] at hT
        rw [if_pos hn] at hT
        rw [hT] at h
        cases h
        refine (take_none l r n hs w hd hn).mono ?_
        rintro e w' ⟨rfl, hb⟩
        exact ⟨_, rfl, Kd.R_nil _ _ _ _ _, hb.below⟩
      · have := take_good l r n hs w hd (by omega)
        rw [h] at this
        exact this
  · rw [if_neg hs] at h
    cases h
end Go.Proofs.YthaegbiblblccaaGreatDoor.XEnt
