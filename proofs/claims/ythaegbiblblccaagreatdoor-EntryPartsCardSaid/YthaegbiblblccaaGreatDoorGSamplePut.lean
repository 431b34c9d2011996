/- What sample.Put answers: what is wrong, or the samples' bytes; and that the code comes to it. Conditions: the samples lie in memory. -/
import Derived.Test.YthaegbiblblccaaGreatDoorSmpLib
import Derived.Test.YthaegbiblblccaaGreatDoorSmpGlue0
import Derived.Test.YthaegbiblblccaaGreatDoorBld
import Derived.Test.YthaegbiblblccaaGreatDoorClos
import Derived.Deep.RegionHeld3
import Derived.Deep.LoopGhost
import Derived.Lib.Hide
import Derived.Outline
import Derived.Test.YthaegbiblblccaaGreatDoorXEntP1
import Derived.Test.YthaegbiblblccaaGreatDoorXEntP2
namespace Go.Proofs.YthaegbiblblccaaGreatDoor.XEnt
open Go.RowKit Go.Proofs.YthaegbiblblccaaGreatDoorW.PrintWords Go.Proofs.YthaegbiblblccaaGreatDoorW.PrintLast Go.Proofs.YthaegbiblblccaaGreatDoorW.PrintMore Go.Proofs.YthaegbiblblccaaGreatDoor.Num
set_option linter.unusedVariables false
set_option linter.unusedSimpArgs false

instance (l : List S54) : Decidable (∀ y ∈ l, Smp.WF y) := List.decidableBAll (p := fun y => Smp.WF y) l
def sample_Put.f (l0 : List S54) : Option (ByteArray × Int) := if ∀ y ∈ l0, Smp.WF y then some (Smp.putS l0) else none
section
theorem snp (n : Nat) (hn : n < 18446744073709551616) (w : World) : Calls Tryz.prog 43 #[.int .u64 (n : Int)] w fun e w' => e = .returned (.string (bs (enc n))) ∧ Below w.heap.size w w' :=
  num_Put.calls 10 (n : Int) _ w (put_f hn (by omega))
theorem npi (m : Int) (hm : -9223372036854775808 ≤ m ∧ m < 9223372036854775808) (w : World) : Calls Tryz.prog 46 #[.int .i64 m] w fun e w' => e = .returned (.string (bs (enc (zig m)))) ∧ Below w.heap.size w w' :=
  num_PutInt.calls 10 m _ w (putInt_f hm (by omega))
end
/-- What holds while a text is built: what came in lies as it lay; the builder, from block b on, holds s. -/
structure SInv (w : World) (b : Nat) (s : List UInt8) (W : World) : Prop where
  below : Below w.heap.size w W
  ge : w.heap.size ≤ b
  bld : Lib.IsBuilder 79 5 b b (Lib.byteCells s) W
theorem SInv.lt {w : World} {b : Nat} {s : List UInt8} {W : World} (h : SInv w b s W) : b < W.heap.size := h.bld.elim (fun x => x.lt) (fun x => x.lt)
theorem sbld_kept {T e B b : Nat} {bs' : List Value} {W W' : World} (h : Lib.IsBuilder T e B b bs' W) (hb : Below W.heap.size W W') : Lib.IsBuilder T e B b bs' W' := by
  have one : ∀ {p : Value}, Lib.BuilderAt T e B b p bs' W → Lib.BuilderAt T e B b p bs' W' := by
    rintro p ⟨h1, v, h2, h3, h4⟩
    exact ⟨h1, v, (hb.block b (Array.getElem?_eq_some_iff.1 h2).1).trans h2, pw_own_below h3 hb, h4⟩
  exact h.elim (fun x => .inl (one x)) (fun x => .inr (one x))
theorem SInv.step {w : World} {b : Nat} {s : List UInt8} {W W' : World} (h : SInv w b s W) (hb : Below W.heap.size W W') : SInv w b s W' :=
  ⟨below_step h.below hb, h.ge, sbld_kept h.bld hb⟩
theorem SInv.drew {w : World} {b : Nat} {s : List UInt8} {W : World} (h : SInv w b s W) : SInv w b s W.drew := h.step (below_drew (Below.refl _ _))
theorem SInv.alloc {w : World} {b : Nat} {s : List UInt8} {W : World} (h : SInv w b s W) (o : Obj) : SInv w b s (W.alloc o) := h.step (below_alloc (Below.refl _ _) o)
theorem SInv.cell {w : World} {b : Nat} {s : List UInt8} {W : World} (h : SInv w b s W) {a : Addr} {v : Value} (hc : w.cell? a = some v) : W.cell? a = some v := pw_cell_below h.below hc
theorem SInv.write {w : World} {b : Nat} {s : List UInt8} {W : World} (h : SInv w b s W) (t : List UInt8) (hl : s.length + t.length ≤ 100000) :
    Calls Tryz.prog 42 #[.pointer (some ⟨b, 0, none⟩), .string (bs t)] W fun e W' => e = .returned (.tuple #[.int .i64 (t.length : Int), .nilIface]) ∧ SInv w b (s ++ t) W' ∧ Lib.OthersKept 5 (some b) W W' := by
  refine (Bld.write b b (Lib.byteCells s) (bs t) W h.bld (by rw [Lib.byteCells_length, bs_size]; omega) (Nat.le_of_lt h.lt)).mono ?_
  rintro e W' ⟨rfl, h1, h2, h3⟩
  refine ⟨by rw [bs_size], ⟨h.below.trans (h2.mono h.ge), h.ge, ?_⟩, h3⟩
  rw [Lib.byteCells_append]; exact h1
theorem SInv.writeS {w : World} {b : Nat} {s : List UInt8} {W : World} (h : SInv w b s W) (x : ByteArray) (t : List UInt8) (hx : x = bs t) (hl : s.length + t.length ≤ 100000) :
    Calls Tryz.prog 42 #[.pointer (some ⟨b, 0, none⟩), .string x] W fun e W' => e = .returned (.tuple #[.int .i64 (t.length : Int), .nilIface]) ∧ SInv w b (s ++ t) W' ∧ Lib.OthersKept 5 (some b) W W' := by
  subst hx; exact h.write t hl
theorem w64_rng (n : Int) : -9223372036854775808 ≤ wrap64 n ∧ wrap64 n < 9223372036854775808 := by unfold wrap64; omega
/-- A block that stands as it stood. -/
theorem blkS_below {W W' : World} (hb : Below W.heap.size W W') {k : Nat} {o : Obj} (h : W.heap[k]? = some o) : W'.heap[k]? = some o :=
  (hb.block k (Array.getElem?_eq_some_iff.1 h).1).trans h
theorem blk_set {W : World} {p : Addr} {v : Value} {k : Nat} {o : Obj} (h : W.heap[k]? = some o) (hk : k ≠ p.block) : (W.setCell p v).heap[k]? = some o :=
  (Below.heap_setCell W p v k hk).trans h
/-- Behind the builder: the three closures' numbers. -/
structure Bx (w : World) (b g : Nat) (s : List UInt8) (p q r : Int) (W : World) : Prop where
  inv : SInv w b s W
  lt : b < g
  b0 : W.heap[g]? = some (.cells #[.int .i64 p] 2 (0, 0))
  b1 : W.heap[g + 1]? = some (.cells #[.int .i64 q] 2 (0, 0))
  b2 : W.heap[g + 1 + 1]? = some (.cells #[.int .i64 r] 2 (0, 0))
theorem Bx.step {w : World} {b g : Nat} {s : List UInt8} {p q r : Int} {W W' : World} (h : Bx w b g s p q r W) (hb : Below W.heap.size W W') : Bx w b g s p q r W' :=
  ⟨h.inv.step hb, h.lt, blkS_below hb h.b0, blkS_below hb h.b1, blkS_below hb h.b2⟩
theorem Bx.drew {w : World} {b g : Nat} {s : List UInt8} {p q r : Int} {W : World} (h : Bx w b g s p q r W) : Bx w b g s p q r W.drew := h.step (below_drew (Below.refl _ _))
/-- And the row that is put now. -/
structure SBy (w : World) (b g h : Nat) (s : List UInt8) (p q r u v : Int) (W : World) : Prop where
  bx : Bx w b g s p q r W
  lt : g + 1 + 1 < h
  x : W.heap[h]? = some (.cells #[.int .u64 u, .int .i64 v] 54 (0, 0))
theorem SBy.step {w : World} {b g h : Nat} {s : List UInt8} {p q r u v : Int} {W W' : World} (hB : SBy w b g h s p q r u v W) (hb : Below W.heap.size W W') : SBy w b g h s p q r u v W' :=
  ⟨hB.bx.step hb, hB.lt, blkS_below hb hB.x⟩
theorem SBy.drew {w : World} {b g h : Nat} {s : List UInt8} {p q r u v : Int} {W : World} (hB : SBy w b g h s p q r u v W) : SBy w b g h s p q r u v W.drew := hB.step (below_drew (Below.refl _ _))
theorem SBy.cells {w : World} {b g h : Nat} {s : List UInt8} {p q r u v : Int} {W : World} (hB : SBy w b g h s p q r u v W) : W.cell? ⟨h, 0, none⟩ = some (.int .u64 u) ∧ W.cell? ⟨h, 1, none⟩ = some (.int .i64 v) :=
  ⟨by rw [Lib.cell_of_heap hB.x]; rfl, by rw [Lib.cell_of_heap hB.x]; rfl⟩
theorem SInv.set {w : World} {b : Nat} {s : List UInt8} {W : World} (h : SInv w b s W) {k : Nat} (hk : b < k) (ho : ∃ n, W.heap[k]? = some (.cells #[.int .i64 n] 2 (0, 0))) (v : Value) : SInv w b s (W.setCell ⟨k, 0, none⟩ v) := by
  have hb : Below k W (W.setCell ⟨k, 0, none⟩ v) := (Below.refl k W).setCell (p := ⟨k, 0, none⟩) (Nat.le_refl _) _
  refine ⟨h.below.trans (hb.mono (by have := h.ge; omega)), h.ge, ?_⟩
  obtain ⟨n0, ho⟩ := ho
  have one : ∀ {p : Value}, Lib.BuilderAt 79 5 b b p (Lib.byteCells s) W → Lib.BuilderAt 79 5 b b p (Lib.byteCells s) (W.setCell ⟨k, 0, none⟩ v) := by
    rintro p ⟨h1, v', h2, h3, h4⟩
    refine ⟨h1, v', blk_set h2 (by simp; omega), ⟨h3.1, ?_⟩, h4⟩
    rcases h3.2 with h5 | ⟨g', cap, cur, h5, h6, h7, h8⟩
    · exact .inl h5
    · have hne : g' ≠ k := by rintro rfl; rw [ho] at h7; cases h7
      exact .inr ⟨g', cap, cur, h5, h6, blk_set h7 hne, h8⟩
  exact h.bld.elim (fun y => .inl (one y)) (fun y => .inr (one y))
theorem SBy.call0 {w : World} {b g h : Nat} {s : List UInt8} {p q r u v : Int} {W : World} (hB : SBy w b g h s p q r u v W) (n : Int) :
    Calls Tryz.prog 67 #[.int .i64 n, .pointer (some ⟨g, 0, none⟩)] W fun e W' => e = .returned (.int .i64 (wrap64 (n - p))) ∧ SBy w b g h s n q r u v W' := by
  refine (Clos.change g n p W (by rw [Lib.cell_of_heap hB.bx.b0]; rfl) (Lib.frozen_of_heap hB.bx.b0 0)).mono ?_
  rintro e W' ⟨rfl, rfl⟩
  have hl := hB.lt
  exact ⟨rfl, ⟨hB.bx.inv.set hB.bx.lt ⟨_, hB.bx.b0⟩ _, hB.bx.lt, heap_setCell_same W g 0 _ _ _ hB.bx.b0, blk_set hB.bx.b1 (by simp), blk_set hB.bx.b2 (by simp; omega)⟩, hl, blk_set hB.x (by simp; omega)⟩
theorem SBy.call1 {w : World} {b g h : Nat} {s : List UInt8} {p q r u v : Int} {W : World} (hB : SBy w b g h s p q r u v W) (n : Int) :
    Calls Tryz.prog 67 #[.int .i64 n, .pointer (some ⟨g + 1, 0, none⟩)] W fun e W' => e = .returned (.int .i64 (wrap64 (n - q))) ∧ SBy w b g h s p n r u v W' := by
  refine (Clos.change (g + 1) n q W (by rw [Lib.cell_of_heap hB.bx.b1]; rfl) (Lib.frozen_of_heap hB.bx.b1 0)).mono ?_
  rintro e W' ⟨rfl, rfl⟩
  have hl := hB.lt
  have hl2 := hB.bx.lt
  exact ⟨rfl, ⟨hB.bx.inv.set (by omega) ⟨_, hB.bx.b1⟩ _, hB.bx.lt, blk_set hB.bx.b0 (by simp), heap_setCell_same W (g + 1) 0 _ _ _ hB.bx.b1, blk_set hB.bx.b2 (by simp)⟩, hl, blk_set hB.x (by simp; omega)⟩
theorem SBy.call2 {w : World} {b g h : Nat} {s : List UInt8} {p q r u v : Int} {W : World} (hB : SBy w b g h s p q r u v W) (n : Int) :
    Calls Tryz.prog 67 #[.int .i64 n, .pointer (some ⟨g + 1 + 1, 0, none⟩)] W fun e W' => e = .returned (.int .i64 (wrap64 (n - r))) ∧ SBy w b g h s p q n u v W' := by
  refine (Clos.change (g + 1 + 1) n r W (by rw [Lib.cell_of_heap hB.bx.b2]; rfl) (Lib.frozen_of_heap hB.bx.b2 0)).mono ?_
  rintro e W' ⟨rfl, rfl⟩
  have hl := hB.lt
  have hl2 := hB.bx.lt
  exact ⟨rfl, ⟨hB.bx.inv.set (by omega) ⟨_, hB.bx.b2⟩ _, hB.bx.lt, blk_set hB.bx.b0 (by simp; omega), blk_set hB.bx.b1 (by simp), heap_setCell_same W (g + 1 + 1) 0 _ _ _ hB.bx.b2⟩, hl, blk_set hB.x (by simp; omega)⟩
theorem SBy.write {w : World} {b g h : Nat} {s : List UInt8} {p q r u v : Int} {W : World} (hB : SBy w b g h s p q r u v W) (x : ByteArray) (t : List UInt8) (hx : x = bs t) (hl : s.length + t.length ≤ 100000) :
    Calls Tryz.prog 42 #[.pointer (some ⟨b, 0, none⟩), .string x] W fun e W' => e = .returned (.tuple #[.int .i64 (t.length : Int), .nilIface]) ∧ SBy w b g h (s ++ t) p q r u v W' := by
  refine (hB.bx.inv.writeS x t hx hl).mono ?_
  rintro e W' ⟨rfl, h2, h3⟩
  have hl := hB.lt
  have hl2 := hB.bx.lt
  have one : ∀ {k : Nat} {c : Array Value} {T : TypeId}, W.heap[k]? = some (.cells c T (0, 0)) → b < k → T ≠ 5 → W'.heap[k]? = some (.cells c T (0, 0)) := by
    intro k c T hk hbk hT
    exact h3 k _ hk (by intro e; injection e; omega) (by intro c' fz e; injection e with _ e2 _; exact hT e2)
  exact ⟨rfl, ⟨h2, hl2, one hB.bx.b0 (by omega) (by decide), one hB.bx.b1 (by omega) (by decide), one hB.bx.b2 (by omega) (by decide)⟩, hl, one hB.x (by omega) (by decide)⟩
theorem sput_bad (A0 : Option Addr) (c0 : Nat) (l0 : List S54) (w : World) (hr0 : Kd.C k54 w A0 l0.length l0) (hc0 : l0.length ≤ c0) (hbad : Smp.chk l0 ≠ 0) :
    Calls Tryz.prog 24 #[.slice A0 l0.length c0] w fun e w' => e = .returned (.tuple #[.string (bs []), .int .i64 (Smp.chk l0)]) ∧ Below w.heap.size w w' := by
  have hck := fun w hr => sample_Check.calls _ A0 c0 l0 (Smp.chk l0) w hr hc0 (Smp.check_f l0 1003 (by omega))
  generalize Smp.chk l0 = z at *
  have hz0 : (z == 0) = false := beq_eq_false_iff_ne.2 hbad
  have hz1 : (z != 0) = true := by rw [bne_iff_ne]; exact hbad
  go_enter Tryz.func24, Tryz.ntmps24
  go_wp2_with (go_at_call 33; refine (hck _ hr0).mono ?_; rintro e w1 ⟨rfl, hb⟩)
  go_ret2
  exact ⟨rfl, hb⟩

theorem three_new (W : World) (A B C : Obj) : (((W.alloc A).alloc B).alloc C).drew.heap[W.heap.size]? = some A ∧ (((W.alloc A).alloc B).alloc C).drew.heap[W.heap.size + 1]? = some B ∧ (((W.alloc A).alloc B).alloc C).drew.heap[W.heap.size + 1 + 1]? = some C := by
  have e : (((W.alloc A).alloc B).alloc C).drew.heap = ((W.heap.push A).push B).push C := rfl
  rw [e]
  refine ⟨?_, ?_, ?_⟩ <;> simp only [Array.getElem?_push, Array.size_push] <;> simp
  omega
set_option maxHeartbeats 4000000 in
set_option maxRecDepth 100000 in
theorem sput_good (A0 : Option Addr) (c0 : Nat) (x : S54) (l : List S54) (w : World) (hr0 : Kd.C k54 w A0 (x :: l).length (x :: l)) (hc0 : (x :: l).length ≤ c0) (hgood : Smp.chk (x :: l) = 0) (hwf : ∀ y ∈ x :: l, Smp.WF y) :
    Calls Tryz.prog 24 #[.slice A0 (x :: l).length c0] w fun e w' => e = .returned (.tuple #[.string (bs (Smp.bytes (x :: l))), .int .i64 0]) ∧ Below w.heap.size w w' := by
  have hck := fun w hr => sample_Check.calls _ A0 c0 (x :: l) (Smp.chk (x :: l)) w hr hc0 (Smp.check_f (x :: l) 1003 (by omega))
  rw [hgood] at hck
  have hlen : (x :: l).length ≤ 20 := by
    rcases Nat.lt_or_ge 20 (x :: l).length with h | h
    · simp only [Smp.chk] at hgood
      rw [if_pos h] at hgood
      cases hgood
    · exact h
  obtain ⟨n, hn⟩ : ∃ n, (x :: l).length = n := ⟨_, rfl⟩
  have hn1 : n = l.length + 1 := by rw [← hn]; simp
  have hn20 : n ≤ 20 := by omega
  obtain ⟨ad, hA, hx0, hx1⟩ := at_T54 hr0 0 (by omega) (by simp)
  subst hA
  have e0 : rd_T54 (x :: l) 0 = x := rfl
  rw [e0] at hx0 hx1
  simp only [Int.toNat_zero, Nat.zero_mul, Addr.add, if_true] at hx0 hx1
  have wx := hwf x (by simp)
  obtain ⟨f0, hf0⟩ := Int.eq_ofNat_of_zero_le (wf_u64 wx.1).1
  have hf0' : f0 < 18446744073709551616 := by have := (wf_u64 wx.1).2; omega
  have wv := wf_i64 wx.2
  rw [hf0] at hx0
  have hr6 := Kd.C_drop (m := (1 : Int).toNat) (c := c0) hr0 (by simp) hc0
  replace hr6 : Kd.C k54 w (if c0 = Int.toNat 1 then some ad else Option.map (fun x => x.add (Int.toNat 1 * k54.sz)) (some ad)) l.length l := hr6
  rw [hn] at hck hc0 hr0 ⊢
  obtain ⟨v0, hv0⟩ : ∃ v, x.f1 = v := ⟨_, rfl⟩
  rw [hv0] at hx1 wv
  have HV := Lib.hid hv0; clear hv0
  have p1 := enc_len10 (n := n) (by omega)
  have p2 := enc_len10 hf0'
  have p3 := enc_len10 (zig_lt wv)
  have hw1 : IntKind.u64.wrap (n : Int) = (n : Int) := u64_id (by omega) (by omega)
  have HW := Lib.hid hwf; clear hwf
  have HF := Lib.hid hf0; clear hf0
  have HG := Lib.hid hgood; clear hgood
  have HN := Lib.hid hn1; clear hn1
  have HNN := Lib.hid hn; clear hn
  clear e0 wx
  have hpos : (0 : Int) < (n : Int) := by have := HN.out; omega
  have hpn : 0 < n := by omega
  have q1 : (9223372036854775807 < (bs (enc n)).size + (bs (enc f0)).size) = False := eq_false (by rw [bs_size, bs_size]; omega)
  have q3 : (9223372036854775807 < (bs (enc n)).size + (bs (enc f0)).size + (bs (enc (zig v0))).size) = False := eq_false (by rw [bs_size, bs_size, bs_size]; omega)
  have q2 : (9223372036854775807 < (bs (enc n) ++ bs (enc f0)).size + (bs (enc (zig v0))).size) = False := eq_false (by rw [bs_app, bs_size, bs_size, List.length_append]; omega)
  obtain ⟨i06, hi06, _, hsz6, _⟩ := info_parts info54
  have hcut6 := cut_from (P := Tryz.prog) 23 54 .i64 Tryz.underlying23 hi06 2 hsz6 (some ad) n c0 1 (by omega) (by omega)
  obtain ⟨A6, hA6⟩ : ∃ A1, A1 = (if c0 = (1 : Int).toNat then some ad else (some ad : Option Addr).map (·.add ((1 : Int).toNat * 2))) := ⟨_, rfl⟩
  obtain ⟨c6, hc6⟩ : ∃ c1, c1 = c0 - (1 : Int).toNat := ⟨_, rfl⟩
  have hn6 : n - (1 : Int).toNat = l.length := by have := HN.out; simp; omega
  replace hr6 : Kd.C k54 w A6 l.length l := by rw [hA6]; exact hr6
  rw [hn6, ← hA6, ← hc6] at hcut6
  have HR6 := Lib.hid hr6; clear hr6
  clear hi06 hsz6 hc6 hA6 hn6
  go_enter Tryz.func24, Tryz.ntmps24
  go_wp2_with (go_at_call 33; refine (hck _ hr0).mono ?_; rintro e w1 ⟨rfl, hb1⟩)
  obtain ⟨b, hbb⟩ : ∃ b, w1.heap.size = b := ⟨_, rfl⟩
  have hI : SInv w b [] (w1.alloc (.cells #[.pointer none, .slice none 0 0] 79)) := ⟨below_then hb1 hb1.size (below_alloc (Below.refl _ _) _), hbb ▸ hb1.size, hbb ▸ Lib.fresh_isBuilder _ _ w1⟩
  generalize w1.alloc (.cells #[.pointer none, .slice none 0 0] 79) = W0 at hI ⊢
  rw [hbb]
  clear hbb hb1
  go_region_held3 (fun W => W.cell? ad = some (.int .u64 (f0 : Int)) ∧ W.cell? ⟨ad.block, ad.off + 1, none⟩ = some (.int .i64 v0))
    (first | exact ⟨hI.cell hx0, hI.cell hx1⟩ | exact ⟨hI.drew.cell hx0, hI.drew.cell hx1⟩)
    (first
      | (go_at_call 43; refine (snp _ (by omega) _).mono ?_; rintro e w2 ⟨rfl, hb2⟩; have n0_ := SInv.step (by first | exact hI | exact hI.drew) hb2; clear hI hb2; have hI := n0_; clear n0_)
      | (go_at_call 46; refine (npi _ wv _).mono ?_; rintro e w2 ⟨rfl, hb2⟩; have n0_ := SInv.step (by first | exact hI | exact hI.drew) hb2; clear hI hb2; have hI := n0_; clear n0_)
      | (go_at_call 42; refine (SInv.writeS hI _ (enc n ++ enc f0 ++ enc (zig v0)) (by rw [bs_app, bs_app]) (by simp only [List.length_append, List.length_nil]; omega)).mono ?_; rintro e w2 ⟨rfl, hI2, ho2⟩; clear hI; have hI := hI2; clear hI2))
  go_wp2
  go_region_held3 (fun W => W.cell? ad = some (.int .u64 (f0 : Int)) ∧ W.cell? ⟨ad.block, ad.off + 1, none⟩ = some (.int .i64 v0))
    (first | exact ⟨SInv.cell (s := [] ++ (enc n ++ enc f0 ++ enc (zig v0))) (b := b) (by repeat (first | exact hI | apply SInv.drew | apply SInv.alloc)) hx0, SInv.cell (s := [] ++ (enc n ++ enc f0 ++ enc (zig v0))) (b := b) (by repeat (first | exact hI | apply SInv.drew | apply SInv.alloc)) hx1⟩)
    (first
      | (go_at_call 47; refine (Clos.changes _ _).mono ?_; rintro e w3 ⟨rfl, rfl⟩))
  go_wp2
  go_loopg [48] (l.length + 1) (fun k v48 W => ∃ (i : Nat) (s : List UInt8) (p q r : Int), v48 = .int .i64 (i : Int) ∧ Aside0 (k + i = l.length + 1 ∧ i ≤ l.length) ∧ Aside0 (s ++ Smp.body p q r (l.drop i) = Smp.bytes (x :: l)) ∧ Aside0 (s.length ≤ 30 + 20 * i) ∧ Aside0 (Bx w b w2.heap.size s p q r W))
  case round =>
    obtain ⟨i, s, p, q, r, rfl, HK, HS, HL, HB⟩ := hrel
    by_cases c : i < l.length
    · have cb := decide_eq_true (show (i : Int) < (l.length : Int) by omega)
      have cp : (0 : Int) ≤ (i : Int) := by omega
      have cl : (i : Int) < (l.length : Int) := by omega
      obtain ⟨a6, e6, hy0, hy1⟩ := at_T54 HR6.out (i : Int) (by omega) (by omega)
      cases e6
      generalize hy : rd_T54 l (i : Int) = y at hy0 hy1
      have HY := Lib.hid hy; clear hy
      replace hy0 := HB.out.inv.cell hy0
      replace hy1 := HB.out.inv.cell hy1
      rw [Int.toNat_natCast] at hy0 hy1
      have hB : SBy w b w2.heap.size wr.heap.size s p q r y.f0 y.f1 (wr.alloc (.cells #[.int .u64 y.f0, .int .i64 y.f1] 54)) :=
        ⟨HB.out.step (below_alloc (Below.refl _ _) _), (Array.getElem?_eq_some_iff.1 HB.out.b2).1, Array.getElem?_push_size⟩
      have ha := w64_rng (wrap64 (IntKind.i64.wrap y.f0 - p) - q)
      have hb := w64_rng (y.f1 - r)
      have za := enc_len10 (zig_lt ha)
      have zb := enc_len10 (zig_lt hb)
      have HLL : s.length ≤ 1000 := by have := HL.out; have := HN.out; omega
      have z1 : (9223372036854775807 < (bs (enc (zig (wrap64 (wrap64 (IntKind.i64.wrap y.f0 - p) - q))))).size + (bs (enc (zig (wrap64 (y.f1 - r))))).size) = False := eq_false (by rw [bs_size, bs_size]; omega)
      clear HB hI ho2 hx0 hx1 hr0 hck hw1 p1 p2 p3 q1 q2 q3
      go_wp2
      generalize wr.alloc (.cells #[.int .u64 y.f0, .int .i64 y.f1] 54) = W3 at hB ⊢
      generalize wr.heap.size = h at hB ⊢
      go_region_held3 (fun W => W.cell? ⟨h, 0, none⟩ = some (.int .u64 y.f0) ∧ W.cell? ⟨h, 1, none⟩ = some (.int .i64 y.f1))
        (first | exact hB.cells | exact hB.drew.cells)
        (first
          | (go_at_call 67
             first
               | with_reducible refine (SBy.call0 hB _).mono ?_
               | with_reducible refine (SBy.call0 hB.drew _).mono ?_
               | with_reducible refine (SBy.call1 hB _).mono ?_
               | with_reducible refine (SBy.call1 hB.drew _).mono ?_
               | with_reducible refine (SBy.call2 hB _).mono ?_
               | with_reducible refine (SBy.call2 hB.drew _).mono ?_
             rintro e w3 ⟨rfl, hB2⟩; clear hB; have hB := hB2; clear hB2)
          | (go_at_call 46; (first | with_reducible refine (npi _ ha _).mono ?_ | with_reducible refine (npi _ hb _).mono ?_); rintro e w2 ⟨rfl, hb2⟩; have n0_ := SBy.step (by first | exact hB | exact hB.drew) hb2; clear hB hb2; have hB := n0_; clear n0_)
          | (go_at_call 42; with_reducible refine (SBy.write hB _ (enc (zig (wrap64 (wrap64 (IntKind.i64.wrap y.f0 - p) - q))) ++ enc (zig (wrap64 (y.f1 - r)))) (by rw [bs_app]) (by simp only [List.length_append]; omega)).mono ?_; rintro e w2 ⟨rfl, hI2⟩; clear hB; have hB := hI2; clear hI2))
      go_wp2
      go_roundg (gk - 1)
      case measure => have := HK.out; omega
      case rel =>
        have hyl : y = l[i] := by rw [← HY.out]; exact Smp.rd_S l i c
        refine ⟨i + 1, _, _, _, _, ?_, ⟨?_⟩, ⟨?_⟩, ⟨?_⟩, ⟨hB.bx⟩⟩
        · rw [w64_id (by omega) (by have := HN.out; omega)]; rfl
        · have := HK.out; omega
        · rw [← HS.out, List.drop_eq_getElem_cons c, Smp.body, ← hyl, i64_w]; simp only [List.append_assoc]
        · have := HL.out; rw [List.length_append, List.length_append]; omega
    · have cb := decide_eq_false (show ¬ (i : Int) < (l.length : Int) by omega)
      have hi : i = l.length := by have := HK.out; omega
      obtain rfl : s = Smp.bytes (x :: l) := by rw [← HS.out, hi, List.drop_length, Smp.body, List.append_nil]
      go_wp2_with (go_at_call 45; refine (Bld.string b b _ _ HB.out.inv.bld (Nat.le_of_lt HB.out.inv.lt)).mono ?_; rintro e w5 ⟨rfl, hb5⟩)
      go_ret2
      exact ⟨rfl, HB.out.inv.below.trans (hb5.mono HB.out.inv.ge)⟩
  case atStart =>
    have hg := Nat.le_of_lt hI.lt
    refine ⟨0, _, wrap64 (f0 : Int), 0, v0, rfl, ⟨by omega⟩, ⟨?_⟩, ⟨?_⟩, ⟨⟨by repeat (first | exact hI | apply SInv.drew | apply SInv.alloc), hI.lt, ?_, ?_, ?_⟩⟩⟩
    · simp only [List.drop_zero, List.nil_append, Smp.bytes, HF.out, Int.toNat_natCast, show (x :: l).length = n from HNN.out, show x.f1 = v0 from HV.out]
    · simp only [List.length_append, List.length_nil]; omega
    · exact (three_new w2 _ _ _).1
    · exact (three_new w2 _ _ _).2.1
    · exact (three_new w2 _ _ _).2.2
theorem sample_Put.calls (A0 : Option Addr) (c0 : Nat) (l0 : List S54) (r1 : ByteArray) (r2 : Int) (w : World) (hr0 : Kd.C k54 w A0 l0.length l0) (hc0 : l0.length ≤ c0) (h : sample_Put.f l0 = some (r1, r2)) :
    Calls Tryz.prog 24 #[.slice A0 l0.length c0] w fun e w' => e = .returned (.tuple #[.string r1, .int .i64 r2]) ∧ Below w.heap.size w w' := by
  unfold sample_Put.f at h
  by_cases hw : ∀ y ∈ l0, Smp.WF y
  · rw [if_pos hw] at h
    have h := Option.some.inj h
    unfold Smp.putS at h
    by_cases hc : Smp.chk l0 = 0
    · rw [if_pos hc] at h
      obtain ⟨rfl, rfl⟩ := Prod.mk.inj h
      match l0, hr0, hc0, hw, hc with
      | [], _, _, _, hc => cases hc
      | x :: l, hr0, hc0, hw, hc => exact sput_good A0 c0 x l w hr0 hc0 hc hw
    · rw [if_neg hc] at h
      obtain ⟨rfl, rfl⟩ := Prod.mk.inj h
      exact sput_bad A0 c0 l0 w hr0 hc0 hc
  · rw [if_neg hw] at h
    cases h
end Go.Proofs.YthaegbiblblccaaGreatDoor.XEnt
