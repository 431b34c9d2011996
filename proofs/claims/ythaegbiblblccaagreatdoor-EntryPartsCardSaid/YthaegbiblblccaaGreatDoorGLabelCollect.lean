/- slices.Values, AppendSeq and Collect at labels: what is collected is what the slice holds. Conditions: those that each theorem names. -/
import Derived.Test.YthaegbiblblccaaGreatDoorXEntP1
import Derived.Test.YthaegbiblblccaaGreatDoorOwnA
import Derived.Test.YthaegbiblblccaaGreatDoorNumLib
import Derived.RangeFuncBox
import Derived.Shelf.Abstract
import Derived.Shelf.RegionOpen
import Derived.OwnWalkIn
import Derived.TacticsInMore
import Derived.LoopNIn
import Derived.LoopIn
import Derived.Sort.LoopGhostIn
import Derived.Maps.AppendAt
namespace Go.Proofs.YthaegbiblblccaaGreatDoor.XEnt
open Go.RowKit Go.Shelf Go.Proofs.YthaegbiblblccaaGreatDoorW.PrintWords Go.Proofs.YthaegbiblblccaaGreatDoorW.PrintLast Go.Proofs.YthaegbiblblccaaGreatDoorW.PrintMore Go.Proofs.YthaegbiblblccaaGreatDoor.Num
set_option linter.unusedVariables false
set_option linter.unusedSimpArgs false
attribute [local go_sem] Oper.semAt_some

abbrev Q := S52
def cells1 (x : Q) : List Value := [.string x.f0, .string x.f1]
def flat : List Q → List Value
  | [] => []
  | x :: l => cells1 x ++ flat l
theorem flat_app : ∀ (a b : List Q), flat (a ++ b) = flat a ++ flat b
  | [], _ => rfl
  | x :: a, b => by simp only [List.cons_append, flat, flat_app a b, List.append_assoc]
theorem flat_len : ∀ l : List Q, (flat l).length = l.length * 2
  | [] => rfl
  | x :: l => by simp only [flat, List.length_append, flat_len l, List.length_cons, cells1, List.length_nil]; omega
theorem box1 {W : World} {B : Nat} {v : Value} {t : TypeId} (h : W.heap[B]? = some (.cells #[v] t (0, 0))) : W.cell? ⟨B, 0, none⟩ = some v ∧ W.frozen? ⟨B, 0, none⟩ = false := by
  constructor <;> simp [World.cell?, World.frozen?, h]
theorem box2 {W : World} {B : Nat} {x : Q} {t : TypeId} (h : W.heap[B]? = some (.cells (cells1 x).toArray t (0, 0))) : W.cell? ⟨B, 0, none⟩ = some (.string x.f0) ∧ W.cell? ⟨B, 1, none⟩ = some (.string x.f1) := by
  refine ⟨?_, ?_⟩ <;> simp [World.cell?, h, cells1]
theorem setbox {W : World} {B : Nat} {v : Value} {t : TypeId} (h : W.heap[B]? = some (.cells #[v] t (0, 0))) (v' : Value) : (W.setCell ⟨B, 0, none⟩ v').heap[B]? = some (.cells #[v'] t (0, 0)) := by
  obtain ⟨hlt, hk⟩ := Array.getElem?_eq_some_iff.1 h
  show (W.heap.modify B _)[B]? = _
  rw [Array.getElem?_eq_getElem (by rw [Array.size_modify]; exact hlt), Array.getElem_modify_self, hk]
  rfl
theorem keeps_below {W W' : World} (h : Below W.heap.size W W') : KeepsOthers W W' :=
  ⟨h.size, fun k o hk _ => (h.block k (Array.getElem?_eq_some_iff.1 hk).1).trans hk⟩
theorem cells_new (W : World) (x : Q) : ∀ (j : Nat) (u : Value), (cells1 x)[j]? = some u → (W.alloc (.cells #[.string x.f0, .string x.f1] 52)).cell? ((⟨W.heap.size, 0, none⟩ : Addr).add j) = some u := fun j u h => by
  have ha : (⟨W.heap.size, 0, none⟩ : Addr).add j = ⟨W.heap.size, 0 + j, none⟩ := by unfold Addr.add; split <;> simp_all
  rw [ha, World.cell?_alloc_new, Nat.zero_add, ← h]
  simp [cells1]
theorem grown_keep {W w1 : World} {O : Obj} {row : Option Nat} (hg : (W.alloc O).grownBy w1 row) {k : Nat} {o : Obj} (hk : W.heap[k]? = some o) (hne : row ≠ some k) : w1.heap[k]? = some o := by
  have hlt := (Array.getElem?_eq_some_iff.1 hk).1
  exact (hg.block k (by simp; omega) (fun e => hne e.symm)).trans ((Below.heap_alloc _ _ _ hlt).trans hk)
theorem flat_at : ∀ (l : List Q) (j : Nat) (p : Q), l[j]? = some p → ((flat l).drop (j * 2)).take 2 = cells1 p
  | [], _, _, h => by simp at h
  | x :: l, 0, p, h => by
    simp only [List.getElem?_cons_zero, Option.some.injEq] at h
    subst h
    rfl
  | x :: l, j + 1, p, h => by
    rw [List.getElem?_cons_succ] at h
    have e : (flat (x :: l)).drop ((j + 1) * 2) = (flat l).drop (j * 2) := by
      simp only [flat]
      rw [show (j + 1) * 2 = (cells1 x).length + j * 2 by simp [cells1]; omega, List.drop_append]
      simp [cells1]
    rw [e]; exact flat_at l j p h

/-! ### the caller's box and its row -/
structure At (w0 : World) (o : List Q) (v : Value) (W : World) : Prop where
  box : W.heap[w0.heap.size]? = some (.cells #[v] 22 (0, 0))
  row : W.ownsRow w0.heap.size 52 2 v o.length (flat o)
  bel : Below w0.heap.size w0 W
theorem At.step {w0 W W' : World} {o : List Q} {v : Value} (h : At w0 o v W) (hb : Below W.heap.size W W') : At w0 o v W' :=
  ⟨(hb.block _ (Array.getElem?_eq_some_iff.1 h.box).1).trans h.box, own_move h.row (fun k hk => hb.block k (own_lt h.row k hk)), h.bel.trans (hb.mono h.bel.size)⟩
theorem At.put {w0 W : World} {o : List Q} {v : Value} (h : At w0 o v W) {l : Nat} {x : Obj} (y : Obj) (hl : w0.heap.size + 1 ≤ l) (hx : W.heap[l]? = some x) (hc : x.isCells = false) : At w0 o v (W.putObj l y) := by
  have ne : ∀ k, v.ownBlock = some k → k ≠ l := fun k hk e => by
    obtain ⟨cells, hcs⟩ := own_typed h.row k hk
    rw [e, hx] at hcs; cases hcs; cases hc
  refine ⟨(World.putObj_heap_other (by omega)).trans h.box, own_move h.row (fun k hk => World.putObj_heap_other (ne k hk)), ?_⟩
  refine ⟨h.bel.os, h.bel.tape, h.bel.output, by rw [World.putObj_size]; exact h.bel.size, fun k hk => ?_⟩
  exact (World.putObj_heap_other (by omega)).trans (h.bel.block k hk)
theorem At.ne {w0 W : World} {o : List Q} {v : Value} (h : At w0 o v W) {k : Nat} {c : Array Value} {t : TypeId} (hk : W.heap[k]? = some (.cells c t (0, 0))) (ht : t ≠ 52) : v.ownBlock ≠ some k := fun e => by
  obtain ⟨cells, hcs⟩ := own_typed h.row k e
  rw [hk] at hcs; cases hcs; exact ht rfl
theorem At.app {w0 W w1 : World} {o : List Q} {v v' : Value} {O : Obj} (x : Q) (h : At w0 o v W) (hg : (W.alloc O).grownBy w1 v.ownBlock) (hown : w1.ownsRow w0.heap.size 52 2 v' (o.length + 1) (flat o ++ cells1 x)) :
    At w0 (o ++ [x]) v' (w1.setCell ⟨w0.heap.size, 0, none⟩ v') := by
  have b1 := grown_keep hg h.box (h.ne h.box (by decide))
  have bel1 : Below w0.heap.size w0 w1 := (h.bel.alloc h.bel.size O).grown hg (by have := h.bel.size; simp; omega) (fun k e => own_base h.row k e)
  have ne0 : ∀ k, v'.ownBlock = some k → k ≠ w0.heap.size := fun k hk e => by
    obtain ⟨cells, hcs⟩ := own_typed hown k hk
    rw [e, b1] at hcs; cases hcs
  have hrow : w1.ownsRow w0.heap.size 52 2 v' (o ++ [x]).length (flat (o ++ [x])) := by
    rw [flat_app, List.length_append]
    simpa [flat] using hown
  exact ⟨setbox b1 _, own_move hrow (fun k hk => Below.heap_setCell _ _ _ _ (ne0 k hk)), bel1.setCell (by simp) _⟩
theorem At.made {w0 W : World} {o : List Q} {v : Value} (h : At w0 o v W) : Kd.R k52 52 W w0.heap.size (fun _ => True) v o :=
  ⟨fun _ _ => trivial, flat o, h.row, flat_len o, fun j p hp => by
    have e := flat_at o j p hp
    show k52.M _ _ _ _ (((flat o).drop (j * 2)).take 2)
    rw [e]; exact k52_mkM _ _ _ p⟩
theorem At.fresh {w : World} (W : World) (h : Below (w.heap.size + 1) (w.alloc (.cells #[.slice none 0 0] 22)) W) : At w [] (.slice none 0 0) W := by
  refine ⟨(h.block _ (by omega)).trans (World.alloc_heap_new w _), ⟨rfl, .inl ⟨rfl, rfl⟩⟩, ((Below.refl _ w).alloc (Nat.le_refl _) _).trans (h.mono (by omega))⟩

def JJ (w0 : World) (o : List Q) (x : Q) (W : World) : Prop := ∃ v, At w0 o v W ∧ o.length < 100000
def J2 (w0 : World) (o : List Q) (x : Q) (W : World) : Prop := ∃ v, At w0 (o ++ [x]) v W
def AA (w0 : World) (sq : Value) (o : List Q) (x : Q) (a' : Act) (W : World) : Prop := ∃ v bx, At w0 o v W ∧ v.ownBlock ≠ some bx ∧ w0.heap.size + 1 ≤ bx ∧ W.heap[bx]? = some (.cells (cells1 x).toArray 52 (0, 0)) ∧ o.length < 100000 ∧
  a' = { tmps := #[.slice none 0 0, sq, .pointer (some ⟨w0.heap.size, 0, none⟩), undef, .slice none 0 0, .pointer (some ⟨bx, 0, none⟩), sq, .agg (cells1 x).toArray, undef, undef, undef, undef, undef], defers := [] }
theorem AA.put {w0 A : World} {sq : Value} {o : List Q} {x : Q} {a' : Act} (h : AA w0 sq o x a' A) {l : Nat} {ob : Obj} (o' : Obj) (hl : w0.heap.size + 1 ≤ l) (ho : A.heap[l]? = some ob) (hc : ob.isCells = false) : AA w0 sq o x a' (A.putObj l o') := by
  obtain ⟨v, bx, hA, h1, h2, h3, h4, h5⟩ := h
  exact ⟨v, bx, hA.put o' hl ho hc, h1, h2, (World.putObj_heap_other (fun e => by rw [e, ho] at h3; cases h3; cases hc)).trans h3, h4, h5⟩

theorem values.calls (A : Option Addr) (n c : Nat) (w : World) :
    Calls Tryz.prog 78 #[.slice A n c] w fun e w' => e = .returned (.func (.func 93) #[] #[.pointer (some ⟨w.heap.size, 0, none⟩)]) ∧ w' = w.alloc (.cells #[.slice A n c] 22) := by
  go_enter Tryz.func78, Tryz.ntmps78
  go_wp2
  go_ret
  exact ⟨rfl, rfl⟩

set_option maxHeartbeats 8000000 in
set_option maxRecDepth 100000 in
theorem values1_in (w0 : World) (ls : List Q) (A : Option Addr) (c Bs : Nat) (hr : Kd.C k52 w0 A ls.length ls) (hc : ls.length ≤ c) (hB : w0.cell? ⟨Bs, 0, none⟩ = some (.slice A ls.length c)) (hlt : Bs < w0.heap.size) (hN : ls.length < 100000) (l : Nat) (L : World → Prop) (hL : ∀ A B, L A → KeepsFrom (w0.heap.size + 1) A B → L B)
    (hY : ∀ o x W, JJ w0 o x W → L W → YieldAt Fence.wide 2 Tryz.prog l #[.agg #[.string x.f0, .string x.f1]] W fun e W' => e = .returned (.bool true) ∧ J2 w0 o x W' ∧ L W') (W : World) (h0 : At w0 [] (.slice none 0 0) W) (hl : L W) :
    CallsIn Fence.wide 3 Tryz.prog 93 #[.func (.yield l) #[] #[], .pointer (some ⟨Bs, 0, none⟩)] W fun e W' => (∃ v, e = .returned v) ∧ (∃ v, At w0 ls v W') ∧ L W' := by
  have HR := Aside0.mk hr
  have hB0 := (h0.bel.cell (p := ⟨Bs, 0, none⟩) hlt).trans hB
  clear hr hB
  refine callsIn_of_wp Tryz.func93 rfl trivial ?_ rfl
  simp only [Tryz.ntmps93, List.size_toArray, List.length_cons, List.length_nil, Nat.reduceAdd, Nat.reduceSub, Array.replicate_succ, Array.replicate_zero, List.push_toArray, List.append_toArray, List.nil_append, List.cons_append]
  gi_wp2
  gi_loopg [7] ls.length (fun kq v7 wr => ∃ (j : Nat) (v : Value), Aside0 (j + kq = ls.length) ∧ v7 = .int .i64 (j : Int) ∧ Aside0 (At w0 (ls.take j) v wr) ∧ Aside0 (L wr))
  case atStart => exact ⟨0, _, ⟨Nat.zero_add _⟩, rfl, ⟨h0⟩, ⟨hl⟩⟩
  case round =>
    clear h0 hl hB0
    obtain ⟨j, v, hj, rfl, H0, HL⟩ := hrel
    by_cases hjl : j < ls.length
    · have c0 : decide ((j : Int) < (ls.length : Int)) = true := decide_eq_true (by omega)
      have p0 : (0 : Int) ≤ (j : Int) := by omega
      have p1 : (j : Int) < (ls.length : Int) := by omega
      obtain ⟨ad, e0, hx0, hx1⟩ := at_T52 (Kd.C_below HR.out H0.out.bel) (j : Int) p0 p1
      have hrd : rd_T52 ls (j : Int) = ls[j] := by
        unfold rd_T52
        rw [Int.toNat_natCast, List.getD_eq_getElem?_getD, List.getElem?_eq_getElem hjl]; rfl
      rw [hrd, Int.toNat_natCast] at hx0 hx1
      have htk := Aside0.mk (List.take_succ_eq_append_getElem hjl)
      cases e0
      clear hrd
      generalize ls[j] = x at hx0 hx1 htk
      have p0t := eq_true p0
      have p1t := eq_true p1
      clear p0 p1
      have hb8 := below_alloc (Below.refl wr.heap.size wr) (.cells #[.string x.f0, .string x.f1] 52)
      obtain ⟨fn, tmps, asg, bdy, hy, hR⟩ := hY (ls.take j) x _ ⟨v, H0.out.step hb8, by rw [List.length_take]; omega⟩ (hL _ _ HL.out ((keeps_below hb8).from _))
      clear hb8
      gi_wp2
      refine hR.mono ?_
      rintro e W3 ⟨rfl, ⟨v3, hA3⟩, hL3⟩
      have hA4 := Aside0.mk hA3
      have hL4 := Aside0.mk hL3
      clear hA3 hL3 hR
      gi_wp2
      gi_roundg (ls.length - j - 1)
      case measure => have := hj.out; omega
      case rel => exact ⟨j + 1, v3, ⟨by have := hj.out; omega⟩, rfl, ⟨by rw [htk.out]; exact hA4.out⟩, hL4⟩
    · have c0 : decide ((j : Int) < (ls.length : Int)) = false := decide_eq_false (by omega)
      have hfull : ls.take j = ls := List.take_of_length_le (by omega)
      gi_wp2
      go_end0
      exact ⟨⟨_, rfl⟩, ⟨v, by have := H0.out; rwa [hfull] at this⟩, HL.out⟩

set_option maxHeartbeats 8000000 in
set_option maxRecDepth 100000 in
theorem appendSeq.calls (ls : List Q) (A : Option Addr) (c Bs : Nat) (w : World) (hr : Kd.C k52 w A ls.length ls) (hc : ls.length ≤ c) (hB : w.cell? ⟨Bs, 0, none⟩ = some (.slice A ls.length c)) (hlt : Bs < w.heap.size) (hN : ls.length < 100000) :
    Calls Tryz.prog 100 #[.slice none 0 0, .func (.func 93) #[] #[.pointer (some ⟨Bs, 0, none⟩)]] w fun e w' => ∃ v, e = .returned v ∧ Kd.R k52 52 w' w.heap.size (fun _ => True) v ls ∧ Below w.heap.size w w' := by
  have HR := Aside0.mk hr
  have HC := Aside0.mk hc
  have HB := Aside0.mk hB
  clear hr hc hB
  refine (callsIn_wide (n := 4)).1 ?_
  refine callsIn_of_wp_marks Tryz.func100 rfl trivial ?_ rfl
  simp only [Tryz.ntmps100, List.size_toArray, List.length_cons, List.length_nil, Nat.reduceAdd, Nat.reduceSub, Array.replicate_succ, Array.replicate_zero, List.push_toArray, List.append_toArray, List.nil_append, List.cons_append]
  gi_wp2
  have hsz : (w.alloc (.cells #[.slice none 0 0] 22)).heap.size = w.heap.size + 1 := by simp
  refine wpIn_range_st (F := Fence.wide) rfl (by omega) (gf := 93) (lb := #[.pointer (some ⟨Bs, 0, none⟩)]) ?hg trivial (enters_of Tryz.func93 (by kernel_rfl) rfl) (encs := fun x : Q => #[.agg #[.string x.f0, .string x.f1]]) (fun _ => rfl)
    (fun W => At w [] (.slice none 0 0) W) (fun W => ∃ v, At w ls v W) (JJ w) (J2 w) (AA w (.func (.func 93) #[] #[.pointer (some ⟨Bs, 0, none⟩)])) ?h0 (fun s x a' A l o o' h hl ho hc => h.put o' (by rw [← hsz]; exact hl) ho hc) (fun s x A l o o' h hl ho hc => by obtain ⟨v, hA⟩ := h; exact ⟨v, hA.put o' (by rw [← hsz]; exact hl) ho hc⟩)
    (fun A l o o' h hl ho hc => by obtain ⟨v, hA⟩ := h; exact ⟨v, hA.put o' (by rw [← hsz]; exact hl) ho hc⟩)
    (fun l L hL hY W h0 hl => values1_in w ls A c Bs HR.out HC.out HB.out hlt hN l L (fun A B hA hk => hL A B hA (by rw [hsz]; exact hk)) hY W h0 hl) ?assign ?body ?done
  case hg => rfl
  case h0 => intro W hW; rw [hsz] at hW; exact At.fresh W hW
  case assign =>
    intro l o x W K hj hK
    obtain ⟨v, hA, h1⟩ := hj
    gi_wp2
    refine hK _ _ ((keeps_below (below_alloc (Below.refl _ W) (.cells #[.string x.f0, .string x.f1] 52))).from _) ⟨v, W.heap.size, hA.step (below_alloc (Below.refl _ W) _), fun e => absurd (own_lt hA.row _ e) (by omega), ?_, World.alloc_heap_new _ _, h1, rfl⟩
    have := (Array.getElem?_eq_some_iff.1 hA.box).1
    omega
  case body =>
    rintro l o x a' W ⟨v, bx, hA, h2, h4, h6, h7, rfl⟩
    obtain ⟨hc, hf⟩ := box1 hA.box
    obtain ⟨hx0, hx1⟩ := box2 h6
    obtain ⟨i0, hi, hz0, hz1, hz2⟩ := info_parts info52
    have hlt := (Array.getElem?_eq_some_iff.1 hA.box).1
    have HA := Aside0.mk hA
    gi_wp2_with (first
      | (gi_at_builtin; refine wpListIn_append_own _ rfl _ _ 22 rfl w.heap.size 52 i0 (.agg #[.string ⟨#[]⟩, .string ⟨#[]⟩]) 2 32 Tryz.underlying22 hi hz0 hz1 hz2 rfl (by decide) _ _ _ rfl (hA.step (below_alloc (Below.refl _ W) _)).row ⟨W.heap.size, 0, none⟩ 1 1 (cells1 x) rfl rfl (cells_new W x) (by simp [Value.oneCell', cells1]) (by simp only [maxLen]; omega) (by omega) (by simp; omega) ?_; intro v' w1 hown' hgrow hnil; clear hnil; replace hgrow : (W.alloc (.cells #[.string x.f0, .string x.f1] 52)).grownBy w1 v.ownBlock := hgrow; obtain ⟨g', cap', rfl⟩ := ownsRow_succ hown'; obtain ⟨hc1, hf1⟩ := box1 (grown_keep hgrow hA.box (hA.ne hA.box (by decide))); have HAP := Aside0.mk (HA.out.app x hgrow hown'); have HGR := Aside0.mk hgrow; clear hc hf hx0 hx1 hgrow hown' hA h6))
    have hkc : KeepsOthers W (w1.setCell ⟨w.heap.size, 0, none⟩ (.slice (some ⟨g', 0, none⟩) (o.length + 1) cap')) :=
      (KeepsOthers.alloc W _).trans ((KeepsOthers.of_grownBy HGR.out (fun j ob hj ho => by
        obtain ⟨cells, hcs⟩ := own_typed (HA.out.step (below_alloc (Below.refl _ W) (.cells #[.string x.f0, .string x.f1] 52))).row j hj
        rw [hcs] at ho; cases ho; rfl)).trans (KeepsOthers.setCell _ _ _))
    exact ⟨hkc.from _, _, HAP.out⟩
  case done =>
    rintro D W hD ⟨v, hA⟩ hK
    obtain ⟨hc, hf⟩ := box1 hA.box
    rw [hsz] at hD
    have HA := Aside0.mk hA
    have HK := Aside0.mk hK
    clear hA hK
    gi_wp2
    refine ⟨by simp, .inl ⟨_, _, rfl, run_takeDeferred (w := W) HK.out, ?_⟩⟩
    have hfin := HA.out.put (.deferred none) hD HK.out rfl
    exact ⟨_, results_tmp (fn := Tryz.f100) rfl _ _ _, v, rfl, hfin.made, hfin.bel⟩
theorem collect.calls (ls : List Q) (A : Option Addr) (c Bs : Nat) (w : World) (hr : Kd.C k52 w A ls.length ls) (hc : ls.length ≤ c) (hB : w.cell? ⟨Bs, 0, none⟩ = some (.slice A ls.length c)) (hlt : Bs < w.heap.size) (hN : ls.length < 100000) :
    Calls Tryz.prog 91 #[.func (.func 93) #[] #[.pointer (some ⟨Bs, 0, none⟩)]] w fun e w' => ∃ v, e = .returned v ∧ Kd.R k52 52 w' w.heap.size (fun _ => True) v ls ∧ Below w.heap.size w w' := by
  go_enter Tryz.func91, Tryz.ntmps91
  go_wp2_with (go_at_call 100; refine (appendSeq.calls ls A c Bs _ hr hc hB hlt hN).mono ?_; rintro e w' ⟨v, rfl, hR, hb⟩)
  go_ret
  exact ⟨v, rfl, hR, hb⟩
end Go.Proofs.YthaegbiblblccaaGreatDoor.XEnt
