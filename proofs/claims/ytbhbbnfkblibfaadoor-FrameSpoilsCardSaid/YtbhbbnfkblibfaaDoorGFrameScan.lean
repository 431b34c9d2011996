/- frame.frames and frame.Scan of the given program: a range over a function whose iterator keeps what is left of the bytes in a variable of its own. Conditions: those that each theorem names. -/
import Derived.Test.YtbhbbnfkblibfaaDoorXFrmx4
import Derived.Test.YtbhbbnfkblibfaaDoorRangeSt
import Derived.Test.YtbhbbnfkblibfaaDoorNumLib
import Derived.RangeFuncBox
import Derived.Shelf.Abstract
import Derived.Shelf.RegionOpen
import Derived.OwnWalkIn
import Derived.TacticsInMore
import Derived.LoopNIn
import Derived.LoopIn
import Derived.Sort.LoopGhostIn
import Derived.Maps.AppendAt
namespace Go.Proofs.YtbhbbnfkblibfaaDoor.XFrm
open Go.RowKit Go.Shelf Go.Proofs.YtbhbbnfkblibfaaDoorW.PrintWords Go.Proofs.YtbhbbnfkblibfaaDoorW.PrintLast Go.Proofs.YtbhbbnfkblibfaaDoorW.PrintMore Go.Proofs.YtbhbbnfkblibfaaDoor.Num
set_option linter.unusedVariables false
set_option linter.unusedSimpArgs false
attribute [local go_sem] Oper.semAt_some

abbrev S := S28
def cells1 (x : S) : List Value := [.int .u64 x.f0, .string x.f1, .int .i64 x.f2]
def flat : List S → List Value
  | [] => []
  | x :: l => cells1 x ++ flat l
theorem flat_app : ∀ (a b : List S), flat (a ++ b) = flat a ++ flat b
  | [], _ => rfl
  | x :: a, b => by simp only [List.cons_append, flat, flat_app a b, List.append_assoc]
theorem flat_len : ∀ l : List S, (flat l).length = l.length * 3
  | [] => rfl
  | x :: l => by simp only [flat, List.length_append, flat_len l, List.length_cons, cells1, List.length_nil]; omega

/-! ### frame.Scan: what it answers -/
def frame_Scan.l0 : Nat → ByteArray → List S → Int → Option (List S × Int)
  | 0, _, _, _ => none
  | k + 1, s, o, n => (frame_First.f k s).bind fun t => if t.2.2.2 = 0 then (if 0 ≤ t.2.2.1 then (if t.2.2.1 ≤ (s.size : Int) then (if o.length < 4398046511104 then (frame_Scan.l0 k (s.extract t.2.2.1.toNat s.size) (o ++ [⟨t.1, t.2.1, t.2.2.1⟩]) (wrap64 (n + t.2.2.1))) else none) else none) else none) else some (o, n)
def frame_Scan.f (k : Nat) (a0 : ByteArray) : Option (List S × Int) := frame_Scan.l0 k a0 [] 0
theorem frame_Scan.mono_l : ∀ k s o n, LeO (frame_Scan.l0 k s o n) (frame_Scan.l0 (k + 1) s o n)
  | 0, _, _, _ => fun r h => by simp [frame_Scan.l0] at h
  | k + 1, s, o, n => by
    rw [frame_Scan.l0, frame_Scan.l0]
    refine LeO.bind (frame_First.mono _ _) (fun t => ?_)
    refine LeO.ite ?_ (LeO.refl _)
    refine LeO.ite ?_ (LeO.refl _)
    refine LeO.ite ?_ (LeO.refl _)
    exact LeO.ite (frame_Scan.mono_l k _ _ _) (LeO.refl _)
theorem frame_Scan.mono : ∀ a0 k, LeO (frame_Scan.f k a0) (frame_Scan.f (k + 1) a0) := fun a0 k => frame_Scan.mono_l k a0 [] 0

/-! ### what the blocks hold -/
theorem box1 {W : World} {B : Nat} {v : Value} {t : TypeId} (h : W.heap[B]? = some (.cells #[v] t (0, 0))) : W.cell? ⟨B, 0, none⟩ = some v ∧ W.frozen? ⟨B, 0, none⟩ = false := by
  constructor <;> simp [World.cell?, World.frozen?, h]
theorem box3 {W : World} {B : Nat} {x : S} {t : TypeId} (h : W.heap[B]? = some (.cells (cells1 x).toArray t (0, 0))) : W.cell? ⟨B, 0, none⟩ = some (.int .u64 x.f0) ∧ W.cell? ⟨B, 1, none⟩ = some (.string x.f1) ∧ W.cell? ⟨B, 2, none⟩ = some (.int .i64 x.f2) := by
  refine ⟨?_, ?_, ?_⟩ <;> simp [World.cell?, h, cells1]
theorem setbox {W : World} {B : Nat} {v : Value} {t : TypeId} (h : W.heap[B]? = some (.cells #[v] t (0, 0))) (v' : Value) : (W.setCell ⟨B, 0, none⟩ v').heap[B]? = some (.cells #[v'] t (0, 0)) := by
  obtain ⟨hlt, hk⟩ := Array.getElem?_eq_some_iff.1 h
  show (W.heap.modify B _)[B]? = _
  rw [Array.getElem?_eq_getElem (by rw [Array.size_modify]; exact hlt), Array.getElem_modify_self, hk]
  rfl
/-- The caller's three boxes and its row: the row v, what it holds, the count, what is left of the bytes; bx: blocks that are not the row's own. -/
structure At (w0 : World) (o : List S) (n : Int) (s : ByteArray) (v : Value) (W : World) : Prop where
  box : W.heap[w0.heap.size]? = some (.cells #[v] 40 (0, 0))
  row : W.ownsRow w0.heap.size 28 3 v o.length (flat o)
  nn : W.heap[w0.heap.size + 1]? = some (.cells #[.int .i64 n] 3 (0, 0))
  ss : W.heap[w0.heap.size + 2]? = some (.cells #[.string s] 9 (0, 0))
  bel : Below w0.heap.size w0 W
/-- A new block, and whatever leaves these blocks. -/
theorem At.step {w0 W W' : World} {o : List S} {n : Int} {s : ByteArray} {v : Value} (h : At w0 o n s v W) (hb : Below W.heap.size W W') : At w0 o n s v W' :=
  ⟨(hb.block _ (Array.getElem?_eq_some_iff.1 h.box).1).trans h.box, own_move h.row (fun k hk => hb.block k (own_lt h.row k hk)), (hb.block _ (Array.getElem?_eq_some_iff.1 h.nn).1).trans h.nn, (hb.block _ (Array.getElem?_eq_some_iff.1 h.ss).1).trans h.ss, h.bel.trans (hb.mono h.bel.size)⟩
theorem At.put {w0 W : World} {o : List S} {n : Int} {s : ByteArray} {v : Value} (h : At w0 o n s v W) {l : Nat} {x : Obj} (y : Obj) (hl : w0.heap.size + 3 ≤ l) (hx : W.heap[l]? = some x) (hc : x.isCells = false) : At w0 o n s v (W.putObj l y) := by
  have ne : ∀ k, v.ownBlock = some k → k ≠ l := fun k hk e => by
    obtain ⟨cells, hcs⟩ := own_typed h.row k hk
    rw [e, hx] at hcs; cases hcs; cases hc
  refine ⟨(World.putObj_heap_other (by omega)).trans h.box, own_move h.row (fun k hk => World.putObj_heap_other (ne k hk)), (World.putObj_heap_other (by omega)).trans h.nn, (World.putObj_heap_other (by omega)).trans h.ss, ?_⟩
  refine ⟨h.bel.os, h.bel.tape, h.bel.output, by rw [World.putObj_size]; exact h.bel.size, fun k hk => ?_⟩
  exact (World.putObj_heap_other (by omega)).trans (h.bel.block k hk)
theorem At.setS {w0 W : World} {o : List S} {n : Int} {s : ByteArray} {v : Value} (h : At w0 o n s v W) (s' : ByteArray) : At w0 o n s' v (W.setCell ⟨w0.heap.size + 2, 0, none⟩ (.string s')) := by
  have ne : ∀ k, v.ownBlock = some k → k ≠ w0.heap.size + 2 := fun k hk e => by
    obtain ⟨cells, hcs⟩ := own_typed h.row k hk
    rw [e, h.ss] at hcs; cases hcs
  exact ⟨(Below.heap_setCell _ _ _ _ (by simp)).trans h.box, own_move h.row (fun k hk => Below.heap_setCell _ _ _ _ (ne k hk)), (Below.heap_setCell _ _ _ _ (by simp)).trans h.nn, setbox h.ss _, h.bel.setCell (by simp) _⟩

theorem cells_new (W : World) (x : S) : ∀ (j : Nat) (u : Value), (cells1 x)[j]? = some u → (W.alloc (.cells #[.int .u64 x.f0, .string x.f1, .int .i64 x.f2] 28)).cell? ((⟨W.heap.size, 0, none⟩ : Addr).add j) = some u := fun j u h => by
  have ha : (⟨W.heap.size, 0, none⟩ : Addr).add j = ⟨W.heap.size, 0 + j, none⟩ := by unfold Addr.add; split <;> simp_all
  rw [ha, World.cell?_alloc_new, Nat.zero_add, ← h]
  simp [cells1]
theorem grown_keep {W w1 : World} {O : Obj} {row : Option Nat} (hg : (W.alloc O).grownBy w1 row) {k : Nat} {o : Obj} (hk : W.heap[k]? = some o) (hne : row ≠ some k) : w1.heap[k]? = some o := by
  have hlt := (Array.getElem?_eq_some_iff.1 hk).1
  exact (hg.block k (by simp; omega) (fun e => hne e.symm)).trans ((Below.heap_alloc _ _ _ hlt).trans hk)
theorem At.ne {w0 W : World} {o : List S} {n : Int} {s : ByteArray} {v : Value} (h : At w0 o n s v W) {k : Nat} {c : Array Value} {t : TypeId} (hk : W.heap[k]? = some (.cells c t (0, 0))) (ht : t ≠ 28) : v.ownBlock ≠ some k := fun e => by
  obtain ⟨cells, hcs⟩ := own_typed h.row k e
  rw [hk] at hcs; cases hcs; exact ht rfl
theorem At.app {w0 W w1 : World} {o : List S} {n : Int} {s : ByteArray} {v v' : Value} {O : Obj} (x : S) (h : At w0 o n s v W) (hg : (W.alloc O).grownBy w1 v.ownBlock) (hown : w1.ownsRow w0.heap.size 28 3 v' (o.length + 1) (flat o ++ cells1 x)) (m : Int) :
    At w0 (o ++ [x]) m s v' ((w1.setCell ⟨w0.heap.size, 0, none⟩ v').setCell ⟨w0.heap.size + 1, 0, none⟩ (.int .i64 m)) := by
  have b1 := grown_keep hg h.box (h.ne h.box (by decide))
  have n1 := grown_keep hg h.nn (h.ne h.nn (by decide))
  have s1 := grown_keep hg h.ss (h.ne h.ss (by decide))
  have bel1 : Below w0.heap.size w0 w1 := (h.bel.alloc h.bel.size O).grown hg (by have := h.bel.size; simp; omega) (fun k e => own_base h.row k e)
  have ne0 : ∀ k, v'.ownBlock = some k → k ≠ w0.heap.size := fun k hk e => by
    obtain ⟨cells, hcs⟩ := own_typed hown k hk
    rw [e, b1] at hcs; cases hcs
  have ne1 : ∀ k, v'.ownBlock = some k → k ≠ w0.heap.size + 1 := fun k hk e => by
    obtain ⟨cells, hcs⟩ := own_typed hown k hk
    rw [e, n1] at hcs; cases hcs
  have hrow : w1.ownsRow w0.heap.size 28 3 v' (o ++ [x]).length (flat (o ++ [x])) := by
    rw [flat_app, List.length_append]
    simpa [flat] using hown
  refine ⟨(Below.heap_setCell _ _ _ _ (by simp)).trans (setbox b1 _), own_move hrow (fun k hk => (Below.heap_setCell _ _ _ _ (ne1 k hk)).trans (Below.heap_setCell _ _ _ _ (ne0 k hk))), setbox ((Below.heap_setCell _ _ _ _ (by simp)).trans n1) _, (Below.heap_setCell _ _ _ _ (by simp)).trans ((Below.heap_setCell _ _ _ _ (by simp)).trans s1), (bel1.setCell (by simp) _).setCell (by simp) _⟩

theorem flat_at : ∀ (l : List S) (j : Nat) (p : S), l[j]? = some p → ((flat l).drop (j * 3)).take 3 = cells1 p
  | [], _, _, h => by simp at h
  | x :: l, 0, p, h => by
    simp only [List.getElem?_cons_zero, Option.some.injEq] at h
    subst h
    rfl
  | x :: l, j + 1, p, h => by
    rw [List.getElem?_cons_succ] at h
    have e : (flat (x :: l)).drop ((j + 1) * 3) = (flat l).drop (j * 3) := by
      simp only [flat]
      rw [show (j + 1) * 3 = (cells1 x).length + j * 3 by simp [cells1]; omega, List.drop_append]
      simp [cells1]
    rw [e]; exact flat_at l j p h
theorem At.made {w0 W : World} {o : List S} {n : Int} {s : ByteArray} {v : Value} (h : At w0 o n s v W) : Kd.R k28 28 W w0.heap.size (fun _ => True) v o :=
  ⟨fun _ _ => trivial, flat o, h.row, flat_len o, fun j p hp => by
    have e := flat_at o j p hp
    show k28.M _ _ _ _ (((flat o).drop (j * 3)).take 3)
    rw [e]; exact k28_mkM _ _ _ p⟩

abbrev St := List S × Int × ByteArray × Nat
def JJ (w0 : World) (q : St) (x : S) (W : World) : Prop := ∃ v, At w0 q.1 q.2.1 q.2.2.1 v W ∧ v.ownBlock ≠ some q.2.2.2 ∧ w0.heap.size + 3 ≤ q.2.2.2 ∧ W.heap[q.2.2.2]? = some (.cells (cells1 x).toArray 28 (0, 0)) ∧ q.1.length < 4398046511104
def J2 (w0 : World) (q : St) (x : S) (W : World) : Prop := ∃ v, At w0 (q.1 ++ [x]) (wrap64 (q.2.1 + x.f2)) q.2.2.1 v W ∧ w0.heap.size + 3 ≤ q.2.2.2 ∧ W.heap[q.2.2.2]? = some (.cells (cells1 x).toArray 28 (0, 0))
def EE (w0 : World) (o : List S) (n : Int) (W : World) : Prop := ∃ v s, At w0 o n s v W

theorem keeps_below {W W' : World} (h : Below W.heap.size W W') : KeepsOthers W W' :=
  ⟨h.size, fun k o hk _ => (h.block k (Array.getElem?_eq_some_iff.1 hk).1).trans hk⟩
theorem frame_frames.calls (a0 : ByteArray) (w : World) :
    Calls Tryd.prog 25 #[.string a0] w fun e w' => e = .returned (.func (.func 30) #[] #[.pointer (some ⟨w.heap.size, 0, none⟩)]) ∧ w' = w.alloc (.cells #[.string a0] 9) := by
  go_enter Tryd.func25, Tryd.ntmps25
  go_wp2
  go_ret
  exact ⟨rfl, rfl⟩

set_option maxHeartbeats 8000000 in
set_option maxRecDepth 100000 in
theorem frames1_in (k : Nat) (w0 : World) (a0 : ByteArray) (r1 : List S) (r2 : Int) (hT : Tabs w0) (h : frame_Scan.l0 k a0 [] 0 = some (r1, r2)) (l : Nat) (L : World → Prop) (hL : ∀ A B, L A → KeepsFrom (w0.heap.size + 3) A B → L B)
    (hY : ∀ q x W, JJ w0 q x W → L W → YieldAt Fence.wide 2 Tryd.prog l #[.agg (cells1 x).toArray] W fun e W' => e = .returned (.bool true) ∧ J2 w0 q x W' ∧ L W') (W : World) (h0 : At w0 [] 0 a0 (.slice none 0 0) W) (hl : L W) :
    CallsIn Fence.wide 3 Tryd.prog 30 #[.func (.yield l) #[] #[], .pointer (some ⟨w0.heap.size + 2, 0, none⟩)] W fun e W' => (∃ v, e = .returned v) ∧ EE w0 r1 r2 W' ∧ L W' := by
  refine callsIn_of_wp Tryd.func30 rfl trivial ?_ rfl
  simp only [Tryd.ntmps30, List.size_toArray, List.length_cons, List.length_nil, Nat.reduceAdd, Nat.reduceSub, Array.replicate_succ, Array.replicate_zero, List.push_toArray, List.append_toArray, List.nil_append, List.cons_append]
  gi_wp2
  gi_loopg [3] k (fun kq v3 wr => ∃ s o n v, Aside0 (frame_Scan.l0 kq s o n = some (r1, r2)) ∧ Aside0 (At w0 o n s v wr) ∧ Aside0 (L wr))
  case atStart => exact ⟨a0, [], 0, _, ⟨h⟩, ⟨h0⟩, ⟨hl⟩⟩
  case round =>
    clear h h0 hl
    obtain ⟨s, o, n, v, HA, H0, HL⟩ := hrel
    cases gk with
    | zero => exact absurd HA.out (by simp [frame_Scan.l0])
    | succ k1 =>
      have H := HA.out
      clear HA
      simp only [frame_Scan.l0] at H
      obtain ⟨⟨t1, t2, t3, t4⟩, hF, H⟩ := Option.bind_eq_some_iff.mp H
      have HF := Aside0.mk hF
      clear hF
      obtain ⟨hc, hf⟩ := box1 H0.out.ss
      have HTw := Aside0.mk (hT.below H0.out.bel)
      by_cases c : t4 = 0
      · subst c
        rw [if_pos rfl] at H
        by_cases p0 : 0 ≤ t3
        · rw [if_pos p0] at H
          by_cases p1 : t3 ≤ (s.size : Int)
          · rw [if_pos p1] at H
            by_cases p2 : o.length < 4398046511104
            · rw [if_pos p2] at H
              have H' := Aside0.mk H
              clear H
              have P2 := Aside0.mk p2
              clear p2
              replace p0 := eq_true p0
              replace p1 := eq_true p1
              gi_wp2
              refine ⟨trivial, ?_⟩
              gi_at_call 12
              refine (callsIn_wide.2 (frame_First.calls k1 s t1 t2 t3 0 _ HTw.out HF.out)).mono ?_
              rintro e w8 ⟨rfl, hb⟩
              have hb8 := below_alloc hb (.cells #[.int .u64 t1, .string t2, .int .i64 t3] 28)
              have hJ : JJ w0 (o, n, s, w8.heap.size) ⟨t1, t2, t3⟩ (w8.alloc (.cells #[.int .u64 t1, .string t2, .int .i64 t3] 28)) := ⟨v, H0.out.step hb8, fun e => absurd (own_lt H0.out.row w8.heap.size e) (by have := hb.size; omega), by (have h1 := (Array.getElem?_eq_some_iff.1 H0.out.ss).1; have h2 := hb.size; show w0.heap.size + 3 ≤ w8.heap.size; omega), World.alloc_heap_new _ _, P2.out⟩
              obtain ⟨fn, tmps, asg, bdy, hy, hR⟩ := hY _ _ _ hJ (hL _ _ HL.out ((keeps_below hb8).from _))
              dsimp only [cells1] at hy
              clear hJ hb hb8
              gi_wp2
              refine hR.mono ?_
              rintro e W3 ⟨rfl, ⟨v3, hA3, hge3, hbf3⟩, hL3⟩
              dsimp only at hA3 hge3 hbf3
              obtain ⟨hcs, hfs⟩ := box1 hA3.ss
              obtain ⟨_, _, hc2⟩ := box3 hbf3
              dsimp only at hc2
              have hA4 := Aside0.mk (hA3.setS (s.extract t3.toNat s.size))
              have hL4 := Aside0.mk (hL _ _ hL3 ((KeepsOthers.setCell W3 ⟨w0.heap.size + 2, 0, none⟩ (.string (s.extract t3.toNat s.size))).from _))
              clear hA3 hge3 hbf3 hL3 hR
              gi_wp2
              gi_roundg k1
              case measure => omega
              case rel => exact ⟨_, _, _, v3, H', hA4, hL4⟩
            · rw [if_neg p2] at H; cases H
          · rw [if_neg p1] at H; cases H
        · rw [if_neg p0] at H; cases H
      · rw [if_neg c] at H
        obtain ⟨rfl, rfl⟩ := Prod.mk.inj (Option.some.inj H)
        clear H
        have c1 : (t4 != 0) = true := bne_iff_ne.mpr c
        gi_wp2_with (refine ⟨trivial, ?_⟩; gi_at_call 12; refine (callsIn_wide.2 (frame_First.calls k1 s t1 t2 t3 t4 _ HTw.out HF.out)).mono ?_; rintro e w8 ⟨rfl, hb⟩)
        all_goals (refine ⟨fun _ h => (by cases h), ?_⟩; gi_wp2)
        refine bodyPost_ret (results_none rfl _ _ _) rfl ?_
        have hb8 := below_alloc hb (.cells #[.int .u64 t1, .string t2, .int .i64 t3] 28)
        exact ⟨⟨_, rfl⟩, ⟨v, s, H0.out.step hb8⟩, hL _ _ HL.out ((keeps_below hb8).from _)⟩

theorem At.fresh {w : World} (a0 : ByteArray) (W : World) (h : Below (w.heap.size + 3) (((w.alloc (.cells #[.slice none 0 0] 40)).alloc (.cells #[.int .i64 0] 3)).alloc (.cells #[.string a0] 9)) W) : At w [] 0 a0 (.slice none 0 0) W := by
  have hb : Below w.heap.size w (((w.alloc (.cells #[.slice none 0 0] 40)).alloc (.cells #[.int .i64 0] 3)).alloc (.cells #[.string a0] 9)) :=
    (((Below.refl _ w).alloc (Nat.le_refl _) _).alloc (by simp) _).alloc (by simp; omega) _
  refine ⟨(h.block _ (by omega)).trans ?_, ⟨rfl, .inl ⟨rfl, rfl⟩⟩, (h.block _ (by omega)).trans ?_, (h.block _ (by omega)).trans ?_, hb.trans (h.mono (by omega))⟩
  · exact (Below.heap_alloc _ _ _ (by simp; omega)).trans ((Below.heap_alloc _ _ _ (by simp)).trans (World.alloc_heap_new w _))
  · exact (Below.heap_alloc _ _ _ (by simp)).trans (by have := World.alloc_heap_new (w.alloc (.cells #[.slice none 0 0] 40)) (.cells #[.int .i64 0] 3); rwa [World.size_alloc] at this)
  · have := World.alloc_heap_new ((w.alloc (.cells #[.slice none 0 0] 40)).alloc (.cells #[.int .i64 0] 3)) (.cells #[.string a0] 9); rwa [World.size_alloc, World.size_alloc] at this
theorem J2.put {w0 A : World} {q : St} {x : S} (h : J2 w0 q x A) {l : Nat} {o : Obj} (o' : Obj) (hl : w0.heap.size + 3 ≤ l) (ho : A.heap[l]? = some o) (hc : o.isCells = false) : J2 w0 q x (A.putObj l o') := by
  obtain ⟨v, hA, hge, hb⟩ := h
  exact ⟨v, hA.put o' hl ho hc, hge, (World.putObj_heap_other (fun e => by rw [e, ho] at hb; cases hb; cases hc)).trans hb⟩
def AA (w0 : World) (s0 : ByteArray) (q : St) (x : S) (a' : Act) (W : World) : Prop := ∃ v bx, At w0 q.1 q.2.1 q.2.2.1 v W ∧ v.ownBlock ≠ some q.2.2.2 ∧ v.ownBlock ≠ some bx ∧ w0.heap.size + 3 ≤ q.2.2.2 ∧ w0.heap.size + 3 ≤ bx ∧ W.heap[q.2.2.2]? = some (.cells (cells1 x).toArray 28 (0, 0)) ∧ W.heap[bx]? = some (.cells (cells1 x).toArray 28 (0, 0)) ∧ q.1.length < 4398046511104 ∧
  a' = { tmps := #[.string s0, undef, .slice none 0 0, .int .i64 0, .pointer (some ⟨w0.heap.size, 0, none⟩), .pointer (some ⟨w0.heap.size + 1, 0, none⟩), .pointer (some ⟨bx, 0, none⟩), .string s0, .func (.func 30) #[] #[.pointer (some ⟨w0.heap.size + 2, 0, none⟩)], .agg (cells1 x).toArray, undef, undef, undef, undef, undef, undef, undef, undef, undef, undef], defers := [] }
theorem AA.put {w0 A : World} {s0 : ByteArray} {q : St} {x : S} {a' : Act} (h : AA w0 s0 q x a' A) {l : Nat} {o : Obj} (o' : Obj) (hl : w0.heap.size + 3 ≤ l) (ho : A.heap[l]? = some o) (hc : o.isCells = false) : AA w0 s0 q x a' (A.putObj l o') := by
  obtain ⟨v, bx, hA, h1, h2, h3, h4, h5, h6, h7, h8⟩ := h
  exact ⟨v, bx, hA.put o' hl ho hc, h1, h2, h3, h4, (World.putObj_heap_other (fun e => by rw [e, ho] at h5; cases h5; cases hc)).trans h5, (World.putObj_heap_other (fun e => by rw [e, ho] at h6; cases h6; cases hc)).trans h6, h7, h8⟩

set_option maxHeartbeats 8000000 in
set_option maxRecDepth 100000 in
theorem frame_Scan.calls (k : Nat) (a0 : ByteArray) (r1 : List S) (r2 : Int) (w : World) (hT : Tabs w) (h : frame_Scan.f k a0 = some (r1, r2)) :
    Calls Tryd.prog 16 #[.string a0] w fun e w' => ∃ v0_ : Value, e = .returned (.tuple #[v0_, .int .i64 r2]) ∧ Kd.R k28 28 w' w.heap.size (fun _ => True) v0_ r1 ∧ Below w.heap.size w w' := by
  refine (callsIn_wide (n := 4)).1 ?_
  refine callsIn_of_wp_marks Tryd.func16 rfl trivial ?_ rfl
  simp only [Tryd.ntmps16, List.size_toArray, List.length_cons, List.length_nil, Nat.reduceAdd, Nat.reduceSub, Array.replicate_succ, Array.replicate_zero, List.push_toArray, List.append_toArray, List.nil_append, List.cons_append]
  gi_wp2
  refine ⟨trivial, ?_⟩
  gi_at_call 25
  refine (callsIn_wide.2 (frame_frames.calls a0 _)).mono ?_
  rintro e w' ⟨rfl, rfl⟩
  gi_wp2
  have hsz : (((w.alloc (.cells #[.slice none 0 0] 40)).alloc (.cells #[.int .i64 0] 3)).alloc (.cells #[.string a0] 9)).heap.size = w.heap.size + 3 := by simp
  refine wpIn_range_st (F := Fence.wide) rfl (by omega) (gf := 30) (lb := #[.pointer (some ⟨w.heap.size + 2, 0, none⟩)]) ?hg trivial (enters_of Tryd.func30 (by kernel_rfl) rfl) (encs := fun x : S => #[.agg #[.int .u64 x.f0, .string x.f1, .int .i64 x.f2]]) (fun _ => rfl)
    (fun W => At w [] 0 a0 (.slice none 0 0) W) (EE w r1 r2) (JJ w) (J2 w) (AA w a0) ?h0 (fun s x a' A l o o' h hl ho hc => h.put o' (by rw [← hsz]; exact hl) ho hc) (fun s x A l o o' h hl ho hc => h.put o' (by rw [← hsz]; exact hl) ho hc)
    (fun A l o o' h hl ho hc => by obtain ⟨v, s, hA⟩ := h; exact ⟨v, s, hA.put o' (by rw [← hsz]; exact hl) ho hc⟩)
    (fun l L hL hY W h0 hl => frames1_in k w a0 r1 r2 hT h l L (fun A B hA hk => hL A B hA (by rw [hsz]; exact hk)) hY W h0 hl) ?assign ?body ?done
  case hg => rfl
  case h0 => intro W hW; rw [hsz] at hW; exact At.fresh a0 W hW
  case assign =>
    intro l q x W K hj hK
    obtain ⟨v, hA, h1, h2, h3, h4⟩ := hj
    gi_wp2
    refine hK _ _ ((keeps_below (below_alloc (Below.refl _ W) (.cells #[.int .u64 x.f0, .string x.f1, .int .i64 x.f2] 28))).from _) ⟨v, W.heap.size, hA.step (below_alloc (Below.refl _ W) _), h1, fun e => absurd (own_lt hA.row _ e) (by omega), h2, ?_, (Below.heap_alloc _ _ _ (Array.getElem?_eq_some_iff.1 h3).1).trans h3, World.alloc_heap_new _ _, h4, rfl⟩
    have := (Array.getElem?_eq_some_iff.1 hA.ss).1
    omega
  case body =>
    rintro l q x a' W ⟨v, bx, hA, h1, h2, h3, h4, h5, h6, h7, rfl⟩
    obtain ⟨hc, hf⟩ := box1 hA.box
    obtain ⟨hnc, hnf⟩ := box1 hA.nn
    obtain ⟨hx0, hx1, hx2⟩ := box3 h6
    obtain ⟨i0, hi, hz0, hz1, hz2⟩ := info_parts info28
    have hlt := (Array.getElem?_eq_some_iff.1 hA.ss).1
    have HA := Aside0.mk hA
    gi_wp2_with (first
      | (gi_at_builtin; refine wpListIn_append_own _ rfl _ _ 40 rfl w.heap.size 28 i0 (.agg #[.int .u64 0, .string ⟨#[]⟩, .int .i64 0]) 3 32 Tryd.underlying40 hi hz0 hz1 hz2 rfl (by decide) _ _ _ rfl (hA.step (below_alloc (Below.refl _ W) _)).row ⟨W.heap.size, 0, none⟩ 1 1 (cells1 x) rfl rfl (cells_new W x) (by simp [Value.oneCell', cells1]) (by simp only [maxLen]; omega) (by omega) (by simp; omega) ?_; intro v' w1 hown' hgrow hnil; clear hnil; replace hgrow : (W.alloc (.cells #[.int .u64 x.f0, .string x.f1, .int .i64 x.f2] 28)).grownBy w1 v.ownBlock := hgrow; obtain ⟨g', cap', rfl⟩ := ownsRow_succ hown'; obtain ⟨hc1, hf1⟩ := box1 (grown_keep hgrow hA.box (hA.ne hA.box (by decide))); obtain ⟨hnc1, hnf1⟩ := box1 (grown_keep hgrow hA.nn (hA.ne hA.nn (by decide))); obtain ⟨hx01, hx11, hx21⟩ := box3 (grown_keep hgrow h6 h2); have HBF := Aside0.mk (grown_keep hgrow h5 h1); have HAP := fun m => Aside0.mk (HA.out.app x hgrow hown' m); have HGR := Aside0.mk hgrow; clear hc hf hnc hnf hx0 hx1 hx2 hgrow hown' hA h5 h6))
    have hkc : KeepsOthers W ((w1.setCell ⟨w.heap.size, 0, none⟩ (.slice (some ⟨g', 0, none⟩) (q.1.length + 1) cap')).setCell ⟨w.heap.size + 1, 0, none⟩ (.int .i64 (wrap64 (q.2.1 + x.f2)))) :=
      (KeepsOthers.alloc W _).trans ((KeepsOthers.of_grownBy HGR.out (fun j o hj ho => by
        obtain ⟨cells, hcs⟩ := own_typed (HA.out.step (below_alloc (Below.refl _ W) (.cells #[.int .u64 x.f0, .string x.f1, .int .i64 x.f2] 28))).row j hj
        rw [hcs] at ho; cases ho; rfl)).trans ((KeepsOthers.setCell _ _ _).trans (KeepsOthers.setCell _ _ _)))
    refine ⟨hkc.from _, _, (HAP _).out, h3, (Below.heap_setCell _ _ _ _ (fun e => ?_)).trans ((Below.heap_setCell _ _ _ _ (fun e => ?_)).trans HBF.out)⟩
    · simp only at e; omega
    · simp only at e; omega
  case done =>
    rintro D W hD ⟨v, s, hA⟩ hK
    have mixed : Tryd.prog.follows .mixedOrders = true := by kernel_rfl
    obtain ⟨hc, hf⟩ := box1 hA.box
    obtain ⟨hnc, hnf⟩ := box1 hA.nn
    rw [hsz] at hD
    have HA := Aside0.mk hA
    have HK := Aside0.mk hK
    clear hA hK
    gi_wp2
    gi_region
    gi_wp2
    refine ⟨by simp, .inl ⟨_, _, rfl, run_takeDeferred (w := W.drew) HK.out, ?_⟩⟩
    have hfin := (HA.out.step (show Below W.heap.size W W.drew from (Below.refl _ W).drew)).put (.deferred none) hD HK.out rfl
    exact ⟨_, results_tmp2 (fn := Tryd.f16) rfl _ _ _, v, rfl, hfin.made, hfin.bel⟩
end Go.Proofs.YtbhbbnfkblibfaaDoor.XFrm
