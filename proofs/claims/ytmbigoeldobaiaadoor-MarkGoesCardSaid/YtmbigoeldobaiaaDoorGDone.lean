/- (Dest).done of the given program: all of a span that is pending is done; how many that is. Conditions: numbers far below 2^63, no more than a million. -/
import Derived.Test.YtmbigoeldobaiaaDoorGInsertU
import Derived.Test.YtmbigoeldobaiaaDoorLdgBs
import Derived.Deep.LoopGhost
import Derived.Deep.QuietTactic
import Derived.BigQuiet
import Derived.Laws.CopyOwn
import Derived.Lib.Hide
import Derived.Outline
import Derived.Deep.DeepMust
import Derived.Test.YtmbigoeldobaiaaDoorXMrkP1
namespace Go.Proofs.YtmbigoeldobaiaaDoor.XMrk
open Go Go.RowKit Go.Proofs.YtmbigoeldobaiaaDoorW.PrintWords Go.Proofs.YtmbigoeldobaiaaDoorW.PrintLast Go.Proofs.YtmbigoeldobaiaaDoorW.PrintMore Go.Proofs.YtmbigoeldobaiaaDoor.Num
set_option linter.unusedVariables false
set_option linter.unusedSimpArgs false
/-- The span's rounds: m of them from s on. -/
def spanL : Nat → Int → List Int → Int → List Int × Int
 | 0, _, all, n => (all, n)
 | m + 1, s, all, n => if s ∈ all then spanL m (s + 1) all n else spanL m (s + 1) (insAt all (posN all s) s) (n + 1)
def riseL : Int → List Int → Int × List Int
 | low, [] => (low, [])
 | low, x :: l => if x = low then riseL (low + 1) l else (low, x :: l)
def upTo (l : List Int) : Prop := l.Pairwise (· < ·) ∧ ∀ x ∈ l, 0 ≤ x ∧ x ≤ 1000000000000
theorem filter_lt_take : ∀ (l : List Int) (x : Int), l.Pairwise (· < ·) → l.filter (· < x) = l.take (posN l x) ∧ ∀ y ∈ l.drop (posN l x), x ≤ y
 | [], _, _ => ⟨rfl, fun y h => by simp at h⟩
 | a :: l, x, h => by
  obtain ⟨h1, h2⟩ := List.pairwise_cons.1 h
  obtain ⟨ih1, ih2⟩ := filter_lt_take l x h2
  unfold posN at *
  by_cases c : a < x
  ·rw [List.filter_cons_of_pos (by simpa using c)]
   simp only [List.length_cons, List.take_succ_cons, List.drop_succ_cons]
   exact ⟨by rw [← ih1], ih2⟩
  ·have hn : l.filter (· < x) = [] := by
    rw [List.filter_eq_nil_iff]
    intro y hy
    have := h1 y hy
    simp; omega
   rw [List.filter_cons_of_neg (by simpa using c), hn]
   refine ⟨rfl, fun y hy => ?_⟩
   simp only [List.length_nil, List.drop_zero] at hy
   rcases List.mem_cons.1 hy with rfl | hy
   ·omega
   ·have := h1 y hy; omega
theorem insAt_upTo {l : List Int} {x : Int} (h : upTo l) (hx : 0 ≤ x ∧ x ≤ 1000000000000) (hn : x ∉ l) : upTo (insAt l (posN l x) x) := by
 obtain ⟨h1, h2⟩ := h
 obtain ⟨e, hd⟩ := filter_lt_take l x h1
 have htk : ∀ y ∈ l.take (posN l x), y < x := fun y hy => by
  rw [← e] at hy
  simpa using (List.mem_filter.1 hy).2
 have hdr : ∀ y ∈ l.drop (posN l x), x < y := fun y hy => by
  have h3 := hd y hy
  have h4 : y ≠ x := fun e => hn (e ▸ List.mem_of_mem_drop hy)
  omega
 unfold insAt
 refine ⟨List.pairwise_append.2 ⟨h1.sublist (List.take_sublist _ _), List.pairwise_cons.2 ⟨hdr, h1.sublist (List.drop_sublist _ _)⟩, fun a ha b hb => ?_⟩, fun y hy => ?_⟩
 ·rcases List.mem_cons.1 hb with rfl | hb
  ·exact htk a ha
  ·have := htk a ha; have := hdr b hb; omega
 ·rcases List.mem_append.1 hy with hy | hy
  ·exact h2 y (List.mem_of_mem_take hy)
  ·rcases List.mem_cons.1 hy with rfl | hy
   ·exact hx
   ·exact h2 y (List.mem_of_mem_drop hy)
instance (l : List Int) : Decidable (upTo l) := by unfold upTo; infer_instance
def donePre (lo : Int) (ab : List Int) (a1 a2 a3 : Int) : Prop := upTo ab ∧ ab.length ≤ 1000 ∧ (0 ≤ lo ∧ lo ≤ 1000000000000) ∧ (0 ≤ a1 ∧ a1 ≤ 1000000000000) ∧ (0 ≤ a2 ∧ a2 ≤ 1000000000000) ∧ (0 ≤ a3 ∧ a3 ≤ 1000000000000) ∧ min a2 a3 - max a1 lo ≤ 1000
instance (lo : Int) (ab : List Int) (a1 a2 a3 : Int) : Decidable (donePre lo ab a1 a2 a3) := by unfold donePre; infer_instance
def ledger_Dest_done.f (k : Nat) (a0_0 : ByteArray) (a0_1 a0_2 : Int) (l0_3 : List Int) (a0_4 a0_5 a0_6 a1 a2 a3 : Int) : Option (ByteArray × Int × Int × List Int × Int × Int × Int × Int) :=
 if donePre a0_2 l0_3 a1 a2 a3 then
  some (a0_0, a0_1, (riseL a0_2 (spanL (min a2 a3 - max a1 a0_2).toNat (max a1 a0_2) l0_3 0).1).1, (riseL a0_2 (spanL (min a2 a3 - max a1 a0_2).toNat (max a1 a0_2) l0_3 0).1).2, a0_4, a0_5, a0_6, (spanL (min a2 a3 - max a1 a0_2).toNat (max a1 a0_2) l0_3 0).2)
 else none
structure InvD (w : World) (gb gt : Nat) (box : Array Value) (v : Value) (all : List Int) (W : World) : Prop where
 below : Below w.heap.size w W
 ge : w.heap.size ≤ gb ∧ w.heap.size ≤ gt ∧ gb ≠ gt
 box : W.heap[gb]? = some (.cells box 55 (0, 0))
 res : W.heap[gt]? = some (.cells #[.string (⟨#[]⟩ : ByteArray), .int .u64 0, .int .u64 0, .slice none 0 0, .int .u64 0, .int .u64 0, .int .u64 0] 55 (0, 0))
 own : W.ownsRow w.heap.size 22 1 v all.length (nums .u64 all)
 apart : v.ownBlock ≠ some gb ∧ v.ownBlock ≠ some gt
theorem InvD.step {w : World} {gb gt : Nat} {box : Array Value} {v : Value} {all : List Int} {W W' : World} (h : InvD w gb gt box v all W) (hb : Below W.heap.size W W') : InvD w gb gt box v all W' :=
 ⟨below_step h.below hb, h.ge, (hb.block gb (blk_lt h.box)).trans h.box, (hb.block gt (blk_lt h.res)).trans h.res, pw_own_below h.own hb, h.apart⟩
theorem InvD.lt {w : World} {gb gt : Nat} {box : Array Value} {v : Value} {all : List Int} {W : World} (h : InvD w gb gt box v all W) : gb < W.heap.size ∧ gt < W.heap.size := ⟨blk_lt h.box, blk_lt h.res⟩
theorem InvD.ins {w : World} {gb gt : Nat} {box : Array Value} {v v' : Value} {all ys : List Int} {W W' : World} (h : InvD w gb gt box v all W) (hown : W'.ownsRow w.heap.size 22 1 v' ys.length (nums .u64 ys)) (hg : W.grownBy W' v.ownBlock) (hat : v'.ownBlock = v.ownBlock ∨ ∃ b, v'.ownBlock = some b ∧ W.heap.size ≤ b) : InvD w gb gt box v' ys W' := by
 have hl := h.lt
 refine ⟨h.below.grown hg h.below.size (fun k hk => own_base h.own k hk), h.ge, (hg.block gb hl.1 (fun e => h.apart.1 e.symm)).trans h.box, (hg.block gt hl.2 (fun e => h.apart.2 e.symm)).trans h.res, hown, ?_⟩
 rcases hat with hat | ⟨b, hb, hle⟩
 ·rw [hat]; exact h.apart
 ·rw [hb]
  exact ⟨fun e => by injection e with e; omega, fun e => by injection e with e; omega⟩
theorem put7 {W : World} {g t : Nat} {a0 a1 a2 a3 a4 a5 a6 : Value} (b0 b1 b2 b3 b4 b5 b6 : Value) (h : W.heap[g]? = some (.cells #[a0, a1, a2, a3, a4, a5, a6] t (0, 0))) :
  (((((((W.setCell ⟨g, 0, none⟩ b0).setCell ⟨g, 1, none⟩ b1).setCell ⟨g, 2, none⟩ b2).setCell ⟨g, 3, none⟩ b3).setCell ⟨g, 4, none⟩ b4).setCell ⟨g, 5, none⟩ b5).setCell ⟨g, 6, none⟩ b6).heap[g]? = some (.cells #[b0, b1, b2, b3, b4, b5, b6] t (0, 0)) := by
 have h0 := blk_put (cs' := #[b0, a1, a2, a3, a4, a5, a6]) h 0 b0 rfl
 have h1 := blk_put (cs' := #[b0, b1, a2, a3, a4, a5, a6]) h0 1 b1 rfl
 have h2 := blk_put (cs' := #[b0, b1, b2, a3, a4, a5, a6]) h1 2 b2 rfl
 have h3 := blk_put (cs' := #[b0, b1, b2, b3, a4, a5, a6]) h2 3 b3 rfl
 have h4 := blk_put (cs' := #[b0, b1, b2, b3, b4, a5, a6]) h3 4 b4 rfl
 have h5 := blk_put (cs' := #[b0, b1, b2, b3, b4, b5, a6]) h4 5 b5 rfl
 have h6 := blk_put (cs' := #[b0, b1, b2, b3, b4, b5, b6]) h5 6 b6 rfl
 exact h6
theorem tail_heap (W : World) (g1 g : Nat) (b b0 b1 b2 b3 b4 b5 b6 : Value) (k : Nat) (h1 : k ≠ g1) (h2 : k ≠ g) : ((((((((W.setCell ⟨g1, 3, none⟩ b).setCell ⟨g, 0, none⟩ b0).setCell ⟨g, 1, none⟩ b1).setCell ⟨g, 2, none⟩ b2).setCell ⟨g, 3, none⟩ b3).setCell ⟨g, 4, none⟩ b4).setCell ⟨g, 5, none⟩ b5).setCell ⟨g, 6, none⟩ b6).heap[k]? = W.heap[k]? := by
 refine (Below.heap_setCell _ _ _ k h2).trans ?_
 refine (Below.heap_setCell _ _ _ k h2).trans ?_
 refine (Below.heap_setCell _ _ _ k h2).trans ?_
 refine (Below.heap_setCell _ _ _ k h2).trans ?_
 refine (Below.heap_setCell _ _ _ k h2).trans ?_
 refine (Below.heap_setCell _ _ _ k h2).trans ?_
 refine (Below.heap_setCell _ _ _ k h2).trans ?_
 exact Below.heap_setCell _ _ _ k h1
theorem tail_below {B : Nat} {w W : World} {g1 g : Nat} (h : Below B w W) (h1 : B ≤ g1) (h2 : B ≤ g) (b b0 b1 b2 b3 b4 b5 b6 : Value) : Below B w ((((((((W.setCell ⟨g1, 3, none⟩ b).setCell ⟨g, 0, none⟩ b0).setCell ⟨g, 1, none⟩ b1).setCell ⟨g, 2, none⟩ b2).setCell ⟨g, 3, none⟩ b3).setCell ⟨g, 4, none⟩ b4).setCell ⟨g, 5, none⟩ b5).setCell ⟨g, 6, none⟩ b6) :=
 (((((((h.setCell h1 _).setCell h2 _).setCell h2 _).setCell h2 _).setCell h2 _).setCell h2 _).setCell h2 _).setCell h2 _
theorem copy_src {W : World} {A : Option Addr} {l : List Int} (h : Kd.C (Kd.int .u64) W A l.length l) (h0 : 0 < (nums .u64 l).length) : ∃ ad, A = some ad ∧ ∀ j v, (nums .u64 l)[j]? = some v → W.cell? (ad.add j) = some v := by
 rw [nums_len] at h0
 obtain ⟨ad, rfl, _⟩ := Kd.at_int h 0 (by omega) (by omega)
 refine ⟨ad, rfl, fun j v hj => ?_⟩
 have hjl : j < l.length := by have := (List.getElem?_eq_some_iff.1 hj).1; rwa [nums_len] at this
 obtain ⟨ad', e, hc⟩ := Kd.at_int h (j : Int) (by omega) (by omega)
 injection e with e
 subst e
 rw [Int.toNat_natCast] at hc
 rw [hc, ← hj, nums_get]
 unfold rd
 rw [Int.toNat_natCast, List.getD_eq_getElem?_getD, List.getElem?_eq_getElem hjl]; rfl
theorem made_len (n : Nat) : (madeCells #[.int .u64 0] n).size = n := by simp [madeCells]
set_option maxHeartbeats 8000000 in
set_option maxRecDepth 100000 in
theorem ledger_Dest_done.calls (k : Nat) (a0_0 : ByteArray) (a0_1 : Int) (a0_2 : Int) (A0_3 : Option Addr) (c0_3 : Nat) (l0_3 : List Int) (a0_4 : Int) (a0_5 : Int) (a0_6 : Int) (a1 : Int) (a2 : Int) (a3 : Int) (r1 : ByteArray) (r2 : Int) (r3 : Int) (r4 : List Int) (r5 : Int) (r6 : Int) (r7 : Int) (r8 : Int) (w : World) (hr0_3 : Kd.C (Kd.int .u64) w A0_3 l0_3.length l0_3) (hc0_3 : l0_3.length ≤ c0_3)
  (h : ledger_Dest_done.f k a0_0 a0_1 a0_2 l0_3 a0_4 a0_5 a0_6 a1 a2 a3 = some (r1, r2, r3, r4, r5, r6, r7, r8)) :
  Calls Tryd.prog 40 #[.agg #[.string a0_0, .int .u64 a0_1, .int .u64 a0_2, .slice A0_3 l0_3.length c0_3, .int .u64 a0_4, .int .u64 a0_5, .int .u64 a0_6], .int .u64 a1, .int .u64 a2, .int .u64 a3] w fun e w' => ∃ v3_ : Value, e = .returned (.tuple #[.agg #[.string r1, .int .u64 r2, .int .u64 r3, v3_, .int .u64 r5, .int .u64 r6, .int .u64 r7], .int .u64 r8]) ∧ Kd.V (Kd.int .u64) 22 w' w.heap.size (fun k_ => w.heap.size ≤ k_) v3_ r4 ∧ Below w.heap.size w w' := by
 unfold ledger_Dest_done.f at h
 by_cases hp : donePre a0_2 l0_3 a1 a2 a3
 ·rw [if_pos hp] at h
  simp only [Option.some.injEq, Prod.mk.injEq] at h
  obtain ⟨rfl, rfl, rfl, rfl, rfl, rfl, rfl, rfl⟩ := h
  obtain ⟨hup, hlen, hlo, ha1, ha2, ha3, hrounds⟩ := hp
  obtain ⟨m, hm⟩ : ∃ m : Int, min a2 a3 = m := ⟨_, rfl⟩
  obtain ⟨s0, hs0⟩ : ∃ s0 : Int, max a1 a0_2 = s0 := ⟨_, rfl⟩
  rw [hm, hs0] at hrounds ⊢
  have hmb : 0 ≤ m ∧ m ≤ 1000000000000 := by rw [← hm]; omega
  have hsb : 0 ≤ s0 ∧ s0 ≤ 1000000000000 := by rw [← hs0]; omega
  have HR := Lib.hid hr0_3
  have HUP := Lib.hid hup
  clear hr0_3 hup
  obtain ⟨n0, hn0⟩ : ∃ n0, l0_3.length = n0 := ⟨_, rfl⟩
  have HN := Lib.hid hn0
  rw [hn0] at hlen hc0_3 ⊢
  clear hn0
  have hmk := print_make 53 22 .u64 8 Tryd.underlying53 info22 (by decide) n0 (by omega)
  go_enter Tryd.func40, Tryd.ntmps40
  have hsz1 : (Tryd.prog.info? 22).map (·.size) = some 1 := by
   obtain ⟨i0, hi0, h0, h1, h2⟩ := info_parts info22
   rw [hi0]; simp [h1]
  go_wp2_with (first
   | ((with_reducible refine gate_dst (N := 22) rfl ?_); go_must (refine wpList_copy_splice rfl _ _ 53 53 rfl 22 Tryd.underlying53 hsz1 (some ⟨w.heap.size + 1 + 1, 0, none⟩) A0_3 n0 n0 n0 c0_3 rfl rfl (w.heap.size + 1 + 1) 0 (madeCells #[.int .u64 0] n0).toList 22 ?hg (nums .u64 l0_3) ?hn ?hpos ?hfit (nums_one _) (w.heap.size + 1 + 1) _ (Below.refl _ _) (Nat.le_refl _) ?_; (case hg => rw [Array.toArray_toList]; exact (by simpa using heap_alloc_new ((w.alloc _).alloc _) _)); (case hn => rw [nums_len, HN.out]; simp); (case hpos => intro hp0; exact ⟨rfl, copy_src (Kd.C_alloc (Kd.C_alloc (Kd.C_alloc HR.out _) _) _) hp0⟩); (case hfit => rw [nums_len, HN.out, Array.length_toList, made_len]; omega); intro w3 hH hB; have BKA := Aside0.mk ((hB.block w.heap.size (by omega)).trans (blk_alloc (blk_alloc (heap_alloc_new w _) _) _)); have BKT := Aside0.mk ((hB.block (w.heap.size + 1) (by omega)).trans (blk_alloc (by simpa using heap_alloc_new (w.alloc _) _) _)); have hc2 := (blk_cell BKA.out 2).trans rfl)))
  clear hmk hsz1
  have hgb : w.heap.size + 1 + 1 < w3.heap.size := by
   have e := hH.out
   exact (Array.getElem?_eq_some_iff.1 e).1
  have hI : InvD w w.heap.size (w.heap.size + 1) #[.string a0_0, .int .u64 a0_1, .int .u64 a0_2, .slice A0_3 n0 c0_3, .int .u64 a0_4, .int .u64 a0_5, .int .u64 a0_6] (.slice (some ⟨w.heap.size + 1 + 1, 0, none⟩) n0 n0) l0_3 w3 := by
   refine ⟨?_, ⟨Nat.le_refl _, Nat.le_succ _, Nat.ne_of_lt (Nat.lt_succ_self _)⟩, BKA.out, BKT.out, ⟨by rw [nums_len]; simp, .inr ⟨_, n0, _, by rw [HN.out], by omega, hH.out, by rw [HN.out]; exact Nat.le_refl _, by unfold maxLen; omega, ?_, ?_⟩⟩, by simp [Value.ownBlock]; omega, by simp [Value.ownBlock]⟩
   ·exact (below_alloc (below_alloc (below_alloc (Below.refl _ _) _) _) _).trans (hB.mono (by omega))
   ·simp [Go.splice, nums_len, HN.out, made_len]
   ·simp [Go.splice, nums_len, HN.out]
  clear BKA BKT hH hB hc2 hgb
  obtain ⟨v0, hv0⟩ : ∃ v0, Value.slice (some ⟨w.heap.size + 1 + 1, 0, none⟩) n0 n0 = v0 := ⟨_, rfl⟩
  rw [hv0] at hI ⊢
  have HI := Aside0.mk hI
  clear hI hv0
  go_loopg [10, 11, 12] ((m - s0).toNat + 1) (fun kq v10 v11 v12 W => ∃ (v : Value) (all : List Int) (n s : Int), v10 = .int .u64 n ∧ v = v11 ∧ v12 = .int .u64 s ∧ Aside0 (kq = (m - s).toNat + 1 ∧ spanL (m - s).toNat s all n = spanL (m - s0).toNat s0 l0_3 0 ∧ s0 ≤ s ∧ (s ≤ m ∨ s = s0) ∧ upTo all ∧ (all.length : Int) ≤ 1000 + (s - s0) ∧ 0 ≤ n ∧ n ≤ s - s0) ∧ Aside0 (InvD w w.heap.size (w.heap.size + 1) #[.string a0_0, .int .u64 a0_1, .int .u64 a0_2, .slice A0_3 n0 c0_3, .int .u64 a0_4, .int .u64 a0_5, .int .u64 a0_6] v all W))
  case atStart => exact ⟨v0, l0_3, 0, s0, rfl, rfl, rfl, ⟨rfl, rfl, by omega, .inr rfl, HUP.out, by rw [HN.out]; omega, by omega, by omega⟩, HI⟩
  case round =>
   obtain ⟨v, all, n, s, rfl, rfl, rfl, HA, HD⟩ := hrel
   have hr1 : 0 ≤ n ∧ n ≤ 1000000000000 := by have := HA.out; omega
   have hr2 : 0 ≤ s ∧ s ≤ 1000000000001 := by have := HA.out; omega
   by_cases c : s < m
   ·have cb := decide_eq_true c
    obtain ⟨K, hK⟩ := bs_f all s HA.out.2.2.2.2.1.1 (by have := HA.out; omega)
    have HK := Lib.hid (show slices_BinarySearch_uint64_uint64.f K all s = some ((posN all s : Int), decide (s ∈ all)) from hK K (Nat.le_refl _))
    clear hK
    have hR : Kd.R (Kd.int .u64) 22 wr w.heap.size (fun _ => True) v all := Kd.R_of_own HD.out.own (fun _ _ => trivial)
    obtain ⟨AA, cc, hv, hcc, hC⟩ := Kd.R_reads hR
    have HC := Aside0.mk hC
    clear hR hC
    subst hv
    have hm1 : (m - s).toNat = (m - (s + 1)).toNat + 1 := by omega
    have HM := Lib.hid hm1
    clear hm1
    by_cases cm : s ∈ all
    ·have hk : slices_BinarySearch_uint64_uint64.f K all s = some ((posN all s : Int), true) := by rw [HK.out, decide_eq_true cm]
     have HK2 := Lib.hid hk
     have HCM := Lib.hid cm
     clear hk HK cm
     go_wp2_with (go_at_call 52; refine (slices_BinarySearch_uint64_uint64.calls K AA cc all s _ _ _ HC.out hcc HK2.out).mono ?_; rintro e w2 ⟨rfl, hd⟩; have HD2 := Aside0.mk (HD.out.step hd.below); clear hd)
     go_roundg ((m - (s + 1)).toNat + 1)
     case measure => have := HA.out.1; have := HM.out; omega
     case rel =>
      obtain ⟨g1, g2, g3, g4, g5, g6, g7, g8⟩ := HA.out
      refine ⟨_, all, n, s + 1, rfl, rfl, ?_, ⟨?_, ?_, by omega, by omega, g5, by omega, g7, by omega⟩, HD2⟩
      ·first | rfl | (simp; done)
      ·rfl
      ·rw [← g2, HM.out, spanL, if_pos HCM.out]
    ·have hk : slices_BinarySearch_uint64_uint64.f K all s = some ((posN all s : Int), false) := by rw [HK.out, decide_eq_false cm]
     have HK2 := Lib.hid hk
     have HCM := Lib.hid cm
     clear hk HK cm
     have hps := posN_le all s
     obtain ⟨ps, hpp⟩ : ∃ ps, posN all s = ps := ⟨_, rfl⟩
     have HPS := Lib.hid hpp
     rw [hpp] at HK2 hps
     clear hpp
     go_wp2_with (first
      | (go_at_call 52; refine (slices_BinarySearch_uint64_uint64.calls K AA cc all s _ _ _ HC.out hcc HK2.out).mono ?_; rintro e w2 ⟨rfl, hd⟩; have HD2 := Aside0.mk (HD.out.step hd.below); clear hd)
      | (go_at_call 53; refine (insert_own w.heap.size (.slice AA all.length cc) all ps s w2.heap.size _ (HD2.out.step (below_alloc (Below.refl _ _) _)).own ?sz ?vb ?ne hps ?ln).mono ?_; (case sz => exact (HD2.out.step (below_alloc (Below.refl _ _) _)).below.size); (case vb => exact heap_alloc_new _ _); (case ne => intro e_; exact Nat.lt_irrefl _ (own_lt HD2.out.own _ e_)); (case ln => have := HA.out; omega); rintro e w4 ⟨v4, rfl, ho4, hg4, hat4⟩; have HD4 := Aside0.mk ((HD2.out.step (below_alloc (Below.refl _ _) _)).ins ho4 hg4 hat4); clear ho4 hg4 hat4))
     go_roundg ((m - (s + 1)).toNat + 1)
     case measure => have := HA.out.1; have := HM.out; omega
     case rel =>
      obtain ⟨g1, g2, g3, g4, g5, g6, g7, g8⟩ := HA.out
      refine ⟨_, insAt all ps s, n + 1, s + 1, ?_, rfl, ?_, ⟨rfl, ?_, by omega, by omega, ?_, ?_, by omega, by omega⟩, HD4⟩
      ·first | rfl | (simp; done)
      ·first | rfl | (simp; done)
      ·rw [← g2, HM.out, spanL, if_neg HCM.out, HPS.out]
      ·rw [← HPS.out]; exact insAt_upTo g5 (by omega) HCM.out
      ·rw [insAt_len hps]; omega
   ·have cb := decide_eq_false c
    have hR : Kd.R (Kd.int .u64) 22 wr w.heap.size (fun k_ => k_ ≠ w.heap.size ∧ k_ ≠ w.heap.size + 1) v all := Kd.R_of_own HD.out.own (fun k_ hk_ => ⟨fun e_ => HD.out.apart.1 (by rw [hk_, e_]), fun e_ => HD.out.apart.2 (by rw [hk_, e_])⟩)
    have hV := Kd.R_V (base' := w.heap.size) (Kd.R_bound hR)
    have HV := Aside0.mk hV
    have HOWN := Aside0.mk HD.out.own
    have HX := Lib.hid (show spanL (m - s0).toNat s0 l0_3 0 = (all, n) by rw [← HA.out.2.1, show (m - s).toNat = 0 by omega]; rfl)
    have HU := Lib.hid HA.out.2.2.2.2.1
    have HBX := Aside0.mk HD.out.box
    have HRS := Aside0.mk HD.out.res
    have HBB := Aside0.mk HD.out.below
    have HLL := Lib.hid (show (all.length : Int) ≤ 2000 by have := HA.out; omega)
    clear hR hV HA HD
    obtain ⟨AA, cc, hv, hcc, _⟩ := HV.out
    subst hv
    have HCC := Lib.hid hcc
    have HCM := Lib.hid (show cc ≤ 9223372036854775807 by
     rcases HOWN.out.2 with ⟨e_, _⟩ | ⟨g_, cap_, cur_, e_, _, _, _, hm_, _⟩
     ·injection e_ with _ _ e3; omega
     ·injection e_ with _ _ e3; unfold maxLen at hm_; omega)
    clear hcc
    go_wp2
    clear hm hs0 c cb
    go_loopg [11] (all.length + 1) (fun kq v11 W => ∃ (l : List Int) (lo : Int) (Ar : Option Addr) (cr : Nat), Value.slice Ar l.length cr = v11 ∧ Aside0 (kq = l.length + 1 ∧ riseL lo l = riseL a0_2 all ∧ l.length ≤ all.length ∧ 0 ≤ lo ∧ lo ≤ a0_2 + (all.length - l.length) ∧ (∀ x ∈ l, 0 ≤ x ∧ x ≤ 1000000000000)) ∧ Aside0 (l.length ≤ cr ∧ cr ≤ 9223372036854775807) ∧ Aside0 (Kd.V (Kd.int .u64) 22 W w.heap.size (fun k_ => k_ ≠ w.heap.size ∧ k_ ≠ w.heap.size + 1 ∧ w.heap.size ≤ k_) (.slice Ar l.length cr) l) ∧ Aside0 (W.heap[w.heap.size]? = some (.cells #[.string a0_0, .int .u64 a0_1, .int .u64 lo, .slice A0_3 n0 c0_3, .int .u64 a0_4, .int .u64 a0_5, .int .u64 a0_6] 55 (0, 0))) ∧ Aside0 (W.heap[w.heap.size + 1]? = some (.cells #[.string (⟨#[]⟩ : ByteArray), .int .u64 0, .int .u64 0, .slice none 0 0, .int .u64 0, .int .u64 0, .int .u64 0] 55 (0, 0))) ∧ Aside0 (Below w.heap.size w W))
    case atStart => exact ⟨all, a0_2, AA, cc, rfl, ⟨rfl, rfl, Nat.le_refl _, by omega, by omega, HU.out.2⟩, ⟨HCC.out, HCM.out⟩, ⟨Kd.V_mono HV.out (fun k_ hk_ => ⟨hk_.1.1, hk_.1.2, hk_.2.1⟩)⟩, HBX, HRS, HBB⟩
    case round =>
     obtain ⟨l, lo, Ar, cr, rfl, HA, HCR, HV2, HBX2, HRS2, HBB2⟩ := hrel
     have hc0 := (blk_cell HBX2.out 0).trans rfl
     have hc1 := (blk_cell HBX2.out 1).trans rfl
     have hc2 := (blk_cell HBX2.out 2).trans rfl
     have hc3 := (blk_cell HBX2.out 3).trans rfl
     have hc4 := (blk_cell HBX2.out 4).trans rfl
     have hc5 := (blk_cell HBX2.out 5).trans rfl
     have hc6 := (blk_cell HBX2.out 6).trans rfl
     have hf2 := blk_frozen HBX2.out 2
     have hf3 := blk_frozen HBX2.out 3
     have hd0 := (blk_cell HRS2.out 0).trans rfl
     have hd1 := (blk_cell HRS2.out 1).trans rfl
     have hd2 := (blk_cell HRS2.out 2).trans rfl
     have hd3 := (blk_cell HRS2.out 3).trans rfl
     have hd4 := (blk_cell HRS2.out 4).trans rfl
     have hd5 := (blk_cell HRS2.out 5).trans rfl
     have hd6 := (blk_cell HRS2.out 6).trans rfl
     have he0 := blk_frozen HRS2.out 0
     have he1 := blk_frozen HRS2.out 1
     have he2 := blk_frozen HRS2.out 2
     have he3 := blk_frozen HRS2.out 3
     have he4 := blk_frozen HRS2.out 4
     have he5 := blk_frozen HRS2.out 5
     have he6 := blk_frozen HRS2.out 6
     have hlo : 0 ≤ lo ∧ lo ≤ 1000000100000 := by have := HA.out; have := HLL.out; omega
     cases l with
     | nil =>
      simp only [List.length_nil]
      go_wp2
      go_quiet (fail)
      go_wp2
      refine bodyPost_ret (results_ct rfl _ _ (w.heap.size + 1) 55 #[.string a0_0, .int .u64 a0_1, .int .u64 lo, .slice Ar 0 cr, .int .u64 a0_4, .int .u64 a0_5, .int .u64 a0_6] (0, 0) _ rfl (by (with_reducible repeat (first | refine blk_drewN ?_ _ | refine blk_drew ?_)); exact put7 _ _ _ _ _ _ _ (blk_far HRS2.out (Nat.ne_of_gt (Nat.lt_succ_self _)) _)) Tryd.underlying55 rfl (by kernel_rfl)) rfl ?_
      have hfin := HA.out.2.1
      refine ⟨.slice Ar 0 cr, ?_, ?_, ?_⟩
      ·rw [HX.out]; simp only [← hfin]; rw [riseL]; rfl
      ·rw [HX.out]; simp only [← hfin]; rw [riseL]
       (with_reducible repeat (first | refine Kd.V_drewN ?_ _ | refine Kd.V_drew ?_))
       exact Kd.V_mono (Kd.V_step HV2.out (fun k_ hk_ _ => tail_heap _ _ _ _ _ _ _ _ _ _ _ k_ hk_.1 hk_.2.1)) (fun _ hk_ => hk_.2.2)
      ·(with_reducible repeat (first | apply pw_below_drewN | apply below_drew1))
       exact tail_below (pw_below_drewN HBB2.out _) (Nat.le_refl _) (Nat.le_succ _) _ _ _ _ _ _ _ _
     | cons x r =>
      have hxb := HA.out.2.2.2.2.2 x (by simp)
      have hlen0 : (0 : Int) < ((x :: r).length : Int) := by rw [List.length_cons]; omega
      obtain ⟨ad, e6, hy⟩ := Kd.at_int (Kd.F_now (Kd.V_F HV2.out)) 0 (by omega) hlen0
      cases e6
      have hrd : rd (x :: r) 0 = x := rfl
      rw [hrd] at hy
      obtain ⟨n1, hn1⟩ : ∃ n1, (x :: r).length = n1 := ⟨_, rfl⟩
      have HN1 := Lib.hid hn1
      rw [hn1] at hlen0 ⊢
      clear hn1 hrd
      have cl := decide_eq_true hlen0
      have p0 : 0 < n1 := by omega
      have hy1 : wr.cell? (ad.add 0) = some (.int .u64 x) := hy
      have had : ad.add 0 = ad := by obtain ⟨b_, o_, s_⟩ := ad; cases s_ <;> simp [Addr.add]
      have hy2 : wr.cell? ad = some (.int .u64 x) := had ▸ hy1
      clear had
      by_cases cx : x = lo
      ·have cxb : (x == lo) = true := beq_iff_eq.2 cx
       obtain ⟨i0, hi0, _, hsz0, _⟩ := info_parts info22
       have hcut := cut_from (P := Tryd.prog) 53 22 .i64 Tryd.underlying53 hi0 1 hsz0 (some ad) n1 cr 1 (by omega) (by omega)
       have h1n : (1 : Int).toNat = 1 := rfl
       rw [h1n] at hcut
       have hVc := Kd.F_cut (c := cr) (m := 1) (show Kd.F (Kd.int .u64) wr _ (some ad) (x :: r).length (x :: r) from Kd.V_F HV2.out) (by rw [List.length_cons]; omega) HCR.out.1
       obtain ⟨A', hA'⟩ : ∃ A', (if cr = 1 then some ad else (some ad).map (·.add (1 * 1))) = A' := ⟨_, rfl⟩
       have hVc2 : Kd.F (Kd.int .u64) wr (fun k_ => k_ ≠ w.heap.size ∧ k_ ≠ w.heap.size + 1 ∧ w.heap.size ≤ k_) A' r.length r := by
        rw [← hA']; exact hVc
       have HVC := Aside0.mk hVc2
       rw [hA'] at hcut
       have hn1r : n1 - 1 = r.length := by rw [← HN1.out]; rfl
       rw [hn1r] at hcut
       clear hVc hVc2 hA' hi0 hsz0 h1n hn1r
       go_wp2
       go_quiet (fail)
       go_wp2
       go_roundg (r.length + 1)
       case measure => have := HA.out.1; rw [List.length_cons] at this; omega
       case rel =>
        obtain ⟨g1, g2, g3, g4, g5, g6⟩ := HA.out
        rw [List.length_cons] at g1 g3 g5
        have hcr := HCR.out
        rw [List.length_cons] at hcr
        refine ⟨r, lo + 1, A', cr - 1, rfl, ⟨rfl, ?_, by omega, by omega, by omega, fun y hy => g6 y (by simp [hy])⟩, ⟨by omega, by omega⟩, ⟨?_⟩, ⟨?_⟩, ⟨?_⟩, ⟨?_⟩⟩
        ·rw [← g2, riseL, if_pos cx]
        ·(with_reducible repeat (first | refine Kd.V_drewN ?_ _ | refine Kd.V_drew ?_))
         exact Kd.V_mk (by omega) (Kd.F_far (p := ⟨w.heap.size, 2, none⟩) HVC.out (fun k_ hk_ => hk_.1) _)
        ·(with_reducible repeat (first | refine blk_drewN ?_ _ | refine blk_drew ?_))
         exact blk_put HBX2.out 2 _ rfl
        ·(with_reducible repeat (first | refine blk_drewN ?_ _ | refine blk_drew ?_))
         exact blk_far HRS2.out (Nat.ne_of_gt (Nat.lt_succ_self _)) _
        ·(with_reducible repeat (first | apply pw_below_drewN | apply below_drew1))
         exact (pw_below_drewN HBB2.out _).setCell (p := ⟨w.heap.size, 2, none⟩) (Nat.le_refl _) _
      ·have cxb : (x == lo) = false := beq_eq_false_iff_ne.2 cx
       go_wp2
       go_quiet (fail)
       go_wp2
       refine bodyPost_ret (results_ct rfl _ _ (w.heap.size + 1) 55 #[.string a0_0, .int .u64 a0_1, .int .u64 lo, .slice (some ad) n1 cr, .int .u64 a0_4, .int .u64 a0_5, .int .u64 a0_6] (0, 0) _ rfl (by (with_reducible repeat (first | refine blk_drewN ?_ _ | refine blk_drew ?_)); exact put7 _ _ _ _ _ _ _ (blk_far HRS2.out (Nat.ne_of_gt (Nat.lt_succ_self _)) _)) Tryd.underlying55 rfl (by kernel_rfl)) rfl ?_
       have hfin := HA.out.2.1
       refine ⟨.slice (some ad) n1 cr, ?_, ?_, ?_⟩
       ·rw [HX.out]; simp only [← hfin]; rw [riseL, if_neg cx]; rfl
       ·rw [HX.out]; simp only [← hfin]; rw [riseL, if_neg cx]
        (with_reducible repeat (first | refine Kd.V_drewN ?_ _ | refine Kd.V_drew ?_))
        exact Kd.V_mono (Kd.V_step (HN1.out ▸ HV2.out) (fun k_ hk_ _ => tail_heap _ _ _ _ _ _ _ _ _ _ _ k_ hk_.1 hk_.2.1)) (fun _ hk_ => hk_.2.2)
       ·(with_reducible repeat (first | apply pw_below_drewN | apply below_drew1))
        exact tail_below (pw_below_drewN HBB2.out _) (Nat.le_refl _) (Nat.le_succ _) _ _ _ _ _ _ _ _
 ·rw [if_neg hp] at h; cases h
end Go.Proofs.YtmbigoeldobaiaaDoor.XMrk
