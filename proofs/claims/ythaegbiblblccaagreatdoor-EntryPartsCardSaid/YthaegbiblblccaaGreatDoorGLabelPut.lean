/- What label.Put answers: what is wrong, or the labels' bytes; and that the code comes to it. Conditions: the labels lie in memory. -/
import Derived.Test.YthaegbiblblccaaGreatDoorLblLaw
import Derived.Test.YthaegbiblblccaaGreatDoorLblNumQ
import Derived.Test.YthaegbiblblccaaGreatDoorGLabelCanon
import Derived.Test.YthaegbiblblccaaGreatDoorBld
import Derived.Deep.RegionHeld3
import Derived.Deep.LoopGhost
import Derived.Lib.Hide
import Derived.Outline
import Derived.Test.YthaegbiblblccaaGreatDoorXEntP1
import Derived.Test.YthaegbiblblccaaGreatDoorXEntP2
namespace Go.Proofs.YthaegbiblblccaaGreatDoor.XEnt
open Go.RowKit Go.Proofs.YthaegbiblblccaaGreatDoorW.PrintWords Go.Proofs.YthaegbiblblccaaGreatDoorW.PrintLast Go.Proofs.YthaegbiblblccaaGreatDoorW.PrintMore Go.Proofs.YthaegbiblblccaaGreatDoor.Num Go.Proofs.YthaegbiblblccaaGreatDoor.Lbl
set_option linter.unusedVariables false
set_option linter.unusedSimpArgs false

def label_Put.f (k : Nat) (l0 : List (S52)) : Option (ByteArray × Int) := (label_Check.f k l0).bind fun _ => some (putL l0)
theorem label_Put.mono : ∀ a0 k, LeO (label_Put.f k a0) (label_Put.f (k + 1) a0) := by
  intro a0 k
  unfold label_Put.f
  exact LeO.bind (label_Check.mono _ _) (fun _ => LeO.refl _)
/-- What holds while a text is built: what came in lies as it lay; the builder, from block b on, holds s. -/
structure Inv (w : World) (b : Nat) (s : List UInt8) (W : World) : Prop where
  below : Below w.heap.size w W
  ge : w.heap.size ≤ b
  bld : Lib.IsBuilder 79 5 b b (Lib.byteCells s) W
theorem Inv.lt {w : World} {b : Nat} {s : List UInt8} {W : World} (h : Inv w b s W) : b < W.heap.size := h.bld.elim (fun x => x.lt) (fun x => x.lt)
theorem bld_kept {T e B b : Nat} {bs' : List Value} {W W' : World} (h : Lib.IsBuilder T e B b bs' W) (hb : Below W.heap.size W W') : Lib.IsBuilder T e B b bs' W' := by
  have one : ∀ {p : Value}, Lib.BuilderAt T e B b p bs' W → Lib.BuilderAt T e B b p bs' W' := by
    rintro p ⟨h1, v, h2, h3, h4⟩
    exact ⟨h1, v, (hb.block b (Array.getElem?_eq_some_iff.1 h2).1).trans h2, pw_own_below h3 hb, h4⟩
  exact h.elim (fun x => .inl (one x)) (fun x => .inr (one x))
theorem Inv.step {w : World} {b : Nat} {s : List UInt8} {W W' : World} (h : Inv w b s W) (hb : Below W.heap.size W W') : Inv w b s W' :=
  ⟨below_step h.below hb, h.ge, bld_kept h.bld hb⟩
theorem Inv.drew {w : World} {b : Nat} {s : List UInt8} {W : World} (h : Inv w b s W) : Inv w b s W.drew := h.step (below_drew (Below.refl _ _))
theorem Inv.alloc {w : World} {b : Nat} {s : List UInt8} {W : World} (h : Inv w b s W) (o : Obj) : Inv w b s (W.alloc o) := h.step (below_alloc (Below.refl _ _) o)
theorem Inv.cell {w : World} {b : Nat} {s : List UInt8} {W : World} (h : Inv w b s W) {a : Addr} {v : Value} (hc : w.cell? a = some v) : W.cell? a = some v := pw_cell_below h.below hc
theorem Inv.write {w : World} {b : Nat} {s : List UInt8} {W : World} (h : Inv w b s W) (t : List UInt8) (hl : s.length + t.length ≤ 100000) :
    Calls Tryz.prog 42 #[.pointer (some ⟨b, 0, none⟩), .string (bs t)] W fun e W' => e = .returned (.tuple #[.int .i64 (t.length : Int), .nilIface]) ∧ Inv w b (s ++ t) W' ∧ Lib.OthersKept 5 (some b) W W' := by
  refine (Bld.write b b (Lib.byteCells s) (bs t) W h.bld (by rw [Lib.byteCells_length, bs_size]; omega) (Nat.le_of_lt h.lt)).mono ?_
  rintro e W' ⟨rfl, h1, h2, h3⟩
  refine ⟨by rw [bs_size], ⟨h.below.trans (h2.mono h.ge), h.ge, ?_⟩, h3⟩
  rw [Lib.byteCells_append]; exact h1
theorem Inv.writeS {w : World} {b : Nat} {s : List UInt8} {W : World} (h : Inv w b s W) (x : ByteArray) (t : List UInt8) (hx : x = bs t) (hl : s.length + t.length ≤ 100000) :
    Calls Tryz.prog 42 #[.pointer (some ⟨b, 0, none⟩), .string x] W fun e W' => e = .returned (.tuple #[.int .i64 (t.length : Int), .nilIface]) ∧ Inv w b (s ++ t) W' ∧ Lib.OthersKept 5 (some b) W W' := by
  subst hx; exact h.write t hl
theorem blkB_below {W W' : World} (hb : Below W.heap.size W W') {k : Nat} {o : Obj} (h : W.heap[k]? = some o) : W'.heap[k]? = some o :=
  (hb.block k (Array.getElem?_eq_some_iff.1 h).1).trans h
/-- And the label that is put now. -/
structure By (w : World) (b h : Nat) (s : List UInt8) (x y : ByteArray) (W : World) : Prop where
  inv : Inv w b s W
  lt : b < h
  x : W.heap[h]? = some (.cells #[.string x, .string y] 52 (0, 0))
theorem By.step {w : World} {b h : Nat} {s : List UInt8} {x y : ByteArray} {W W' : World} (hB : By w b h s x y W) (hb : Below W.heap.size W W') : By w b h s x y W' :=
  ⟨hB.inv.step hb, hB.lt, blkB_below hb hB.x⟩
theorem By.drew {w : World} {b h : Nat} {s : List UInt8} {x y : ByteArray} {W : World} (hB : By w b h s x y W) : By w b h s x y W.drew := hB.step (below_drew (Below.refl _ _))
theorem By.cells {w : World} {b h : Nat} {s : List UInt8} {x y : ByteArray} {W : World} (hB : By w b h s x y W) : W.cell? ⟨h, 0, none⟩ = some (.string x) ∧ W.cell? ⟨h, 1, none⟩ = some (.string y) :=
  ⟨by rw [Lib.cell_of_heap hB.x]; rfl, by rw [Lib.cell_of_heap hB.x]; rfl⟩
theorem By.write {w : World} {b h : Nat} {s : List UInt8} {x y : ByteArray} {W : World} (hB : By w b h s x y W) (z : ByteArray) (t : List UInt8) (hz : z = bs t) (hl : s.length + t.length ≤ 100000) :
    Calls Tryz.prog 42 #[.pointer (some ⟨b, 0, none⟩), .string z] W fun e W' => e = .returned (.tuple #[.int .i64 (t.length : Int), .nilIface]) ∧ By w b h (s ++ t) x y W' := by
  refine (hB.inv.writeS z t hz hl).mono ?_
  rintro e W' ⟨rfl, h2, h3⟩
  exact ⟨rfl, h2, hB.lt, h3 h _ hB.x (by intro e; injection e with e; have := hB.lt; omega) (by intro c' fz e; injection e with _ e2 _; exact absurd e2 (by decide))⟩
theorem npT (t : List UInt8) (ht : t.length ≤ 40) (w : World) : Calls Tryz.prog 44 #[.string (bs t)] w fun e w' => e = .returned (.string (bs (encT t))) ∧ Below w.heap.size w w' :=
  num_PutText.calls 10 (bs t) _ w (putText_f (by omega) (by omega))
theorem np (n : Nat) (hn : n < 18446744073709551616) (w : World) : Calls Tryz.prog 43 #[.int .u64 (n : Int)] w fun e w' => e = .returned (.string (bs (enc n))) ∧ Below w.heap.size w w' :=
  num_Put.calls 10 (n : Int) _ w (put_f hn (by omega))

theorem put_bad (k : Nat) (A0 : Option Addr) (c0 : Nat) (l0 : List S52) (w : World) (hr0 : Kd.C k52 w A0 l0.length l0) (hc0 : l0.length ≤ c0) (hk : label_Check.f k l0 = some (chk l0)) (hbad : chk l0 ≠ 0) :
    Calls Tryz.prog 23 #[.slice A0 l0.length c0] w fun e w' => e = .returned (.tuple #[.string (bs []), .int .i64 (chk l0)]) ∧ Below w.heap.size w w' := by
  have hcn := label_Canon.calls k A0 c0 l0 [] (chk l0) w hr0 hc0 (by unfold label_Canon.f; rw [hk, bsome, if_neg hbad])
  clear hr0 hc0 hk
  generalize chk l0 = z at *
  have hz0 : (z == 0) = false := beq_eq_false_iff_ne.2 hbad
  have hz1 : (z != 0) = true := by rw [bne_iff_ne]; exact hbad
  go_enter Tryz.func23, Tryz.ntmps23
  go_wp2_with (go_at_call 39; refine hcn.mono ?_; rintro e w1 ⟨v, rfl, hR, hb⟩)
  go_ret2
  exact ⟨rfl, hb⟩
theorem rd_nat (l : List Q) (i : Nat) (h : i < l.length) : rd_T52 l (i : Int) = l[i] := by
  unfold rd_T52
  rw [Int.toNat_natCast, List.getD_eq_getElem?_getD, List.getElem?_eq_getElem h]; rfl
theorem lbody_snoc (l : List Q) (i : Nat) (h : i < l.length) : lbody (l.take (i + 1)) = lbody (l.take i) ++ (encT (ls l[i].f0) ++ encT (ls l[i].f1)) := by
  rw [List.take_succ_eq_append_getElem h]
  unfold lbody
  rw [List.flatMap_append]; simp
set_option maxHeartbeats 4000000 in
set_option maxRecDepth 100000 in
theorem put_good (k : Nat) (A0 : Option Addr) (c0 : Nat) (l0 : List S52) (w : World) (hr0 : Kd.C k52 w A0 l0.length l0) (hc0 : l0.length ≤ c0) (hk : label_Check.f k l0 = some (chk l0)) (hgood : chk l0 = 0) :
    Calls Tryz.prog 23 #[.slice A0 l0.length c0] w fun e w' => e = .returned (.tuple #[.string (bs (lbytes l0)), .int .i64 0]) ∧ Below w.heap.size w w' := by
  have hcn := label_Canon.calls k A0 c0 l0 (sortL l0) 0 w hr0 hc0 (by unfold label_Canon.f; rw [hk, hgood, bsome, if_pos rfl])
  have hg := good_sort ((chk_zero l0).1 hgood)
  have hbe : lbytes l0 = enc (sortL l0).length ++ lbody (sortL l0) := by unfold lbytes; rw [(sortL_holds l0).1.length_eq]
  rw [hbe]
  clear hr0 hc0 hk hgood hbe
  generalize sortL l0 = l at hcn hg ⊢
  have hlen : l.length ≤ 8 := hg.few
  have HG := Lib.hid hg; clear hg
  have hcn0 : ∀ w1 v, Kd.R k52 52 w1 w.heap.size (fun _ => True) v l → ∃ A c, v = .slice A l.length c ∧ l.length ≤ c ∧ Kd.C k52 w1 A l.length l := fun w1 v h => Kd.R_reads h
  have hw1 : IntKind.u64.wrap (l.length : Int) = (l.length : Int) := u64_id (by omega) (by omega)
  have p1 := enc_len10 (n := l.length) (by omega)
  go_enter Tryz.func23, Tryz.ntmps23
  go_wp2_with (go_at_call 39; refine hcn.mono ?_; rintro e w1 ⟨v, rfl, hR, hb1⟩; obtain ⟨A1, c1, rfl, hc1, hr1⟩ := hcn0 _ _ hR; have HR := Lib.hid hr1; have HB1 := Lib.hid hb1; clear hr1 hR hb1)
  obtain ⟨b, hbb⟩ : ∃ b, w1.heap.size = b := ⟨_, rfl⟩
  have hI : Inv w1 b [] (w1.alloc (.cells #[.pointer none, .slice none 0 0] 79)) := ⟨below_alloc (Below.refl _ _) _, Nat.le_of_eq hbb, hbb ▸ Lib.fresh_isBuilder _ _ w1⟩
  generalize w1.alloc (.cells #[.pointer none, .slice none 0 0] 79) = W0 at hI ⊢
  rw [hbb]
  clear hbb
  go_wp2_with (first
      | (go_at_call 43; refine (np _ (by omega) _).mono ?_; rintro e w2 ⟨rfl, hb2⟩; have n0_ := Inv.step (by first | exact hI | exact hI.drew) hb2; clear hI hb2; have hI := n0_; clear n0_)
      | (go_at_call 42; refine (Inv.writeS hI _ (enc l.length) rfl (by simp only [List.length_nil]; omega)).mono ?_; rintro e w2 ⟨rfl, hI2, ho2⟩; clear hI; have hI := hI2; clear hI2))
  go_loopg [24] (l.length + 1) (fun k v24 W => ∃ (i : Nat), v24 = .int .i64 (i : Int) ∧ Aside0 (k + i = l.length + 1 ∧ i ≤ l.length) ∧ Aside0 (Inv w1 b (enc l.length ++ lbody (l.take i)) W))
  case round =>
    obtain ⟨i, rfl, HK, HB⟩ := hrel
    by_cases c : i < l.length
    · have cb := decide_eq_true (show (i : Int) < (l.length : Int) by omega)
      have cp : (0 : Int) ≤ (i : Int) := by omega
      have cl : (i : Int) < (l.length : Int) := by omega
      obtain ⟨a6, e6, hy0, hy1⟩ := at_T52 HR.out (i : Int) (by omega) (by omega)
      cases e6
      rw [rd_nat l i c] at hy0 hy1
      have hok := HG.out.ok l[i] (List.getElem_mem _)
      have hbl := body_len (l.take i) (fun p hp => HG.out.ok p (List.mem_of_mem_take hp))
      have htk : (l.take i).length ≤ 8 := by rw [List.length_take]; omega
      have HS := Lib.hid (lbody_snoc l i c)
      obtain ⟨ta, hta⟩ : ∃ t, l[i].f0 = bs t := ⟨ls l[i].f0, (bs_ls _).symm⟩
      obtain ⟨tb, htb⟩ : ∃ t, l[i].f1 = bs t := ⟨ls l[i].f1, (bs_ls _).symm⟩
      have hla : ta.length ≤ 40 := by have := ok_name hok; rwa [hta, ls_bs] at this
      have hlb : tb.length ≤ 40 := by have := ok_value hok; rwa [htb, ls_bs] at this
      rw [hta] at hy0
      rw [htb] at hy1
      replace hy0 := HB.out.cell hy0
      replace hy1 := HB.out.cell hy1
      rw [Int.toNat_natCast] at hy0 hy1
      have HE := Lib.hid (show ls l[i].f0 = ta ∧ ls l[i].f1 = tb from ⟨by rw [hta, ls_bs], by rw [htb, ls_bs]⟩)
      obtain ⟨s, hs⟩ : ∃ s, enc l.length ++ lbody (l.take i) = s := ⟨_, rfl⟩
      have hsl : s.length ≤ 1000 := by rw [← hs, List.length_append]; omega
      have HSS := Lib.hid hs
      have hB : By w1 b wr.heap.size s (bs ta) (bs tb) (wr.alloc (.cells #[.string (bs ta), .string (bs tb)] 52)) :=
        ⟨hs ▸ HB.out.step (below_alloc (Below.refl _ _) _), HB.out.lt, Array.getElem?_push_size⟩
      have za := encT_len hla
      have zb := encT_len hlb
      have z1 : (9223372036854775807 < (bs (encT ta)).size + (bs (encT tb)).size) = False := eq_false (by rw [bs_size, bs_size]; omega)
      clear HB hI ho2 hs hok hbl htk hta htb hw1 p1
      go_wp2
      generalize wr.alloc (.cells #[.string (bs ta), .string (bs tb)] 52) = W3 at hB ⊢
      generalize wr.heap.size = h at hB ⊢
      go_region_held3 (fun W => W.cell? ⟨h, 0, none⟩ = some (.string (bs ta)) ∧ W.cell? ⟨h, 1, none⟩ = some (.string (bs tb)))
        (first | exact hB.cells | exact hB.drew.cells)
        (first
          | (go_at_call 44; (first | with_reducible refine (npT ta hla _).mono ?_ | with_reducible refine (npT tb hlb _).mono ?_); rintro e w2 ⟨rfl, hb2⟩; have n0_ := By.step (by first | exact hB | exact hB.drew) hb2; clear hB hb2; have hB := n0_; clear n0_)
          | (go_at_call 42; with_reducible refine (By.write hB _ (encT ta ++ encT tb) (by rw [bs_app]) (by simp only [List.length_append]; omega)).mono ?_; rintro e w2 ⟨rfl, hI2⟩; clear hB; have hB := hI2; clear hI2))
      go_wp2
      go_roundg (gk - 1)
      case measure => have := HK.out; omega
      case rel =>
        refine ⟨i + 1, ?_, ⟨?_⟩, ⟨?_⟩⟩
        · first | rfl | (rw [w64_id (by omega) (by omega)]; rfl)
        · have := HK.out; omega
        · have e := HS.out
          rw [HE.out.1, HE.out.2] at e
          rw [e, ← List.append_assoc, HSS.out]
          first | exact hB.inv | exact hB.drew.inv
    · have cb := decide_eq_false (show ¬ (i : Int) < (l.length : Int) by omega)
      have hi : i = l.length := by have := HK.out; omega
      have hB := HB.out
      rw [hi, List.take_length] at hB
      clear HB
      go_wp2_with (go_at_call 45; refine (Bld.string b b _ _ hB.bld (Nat.le_of_lt hB.lt)).mono ?_; rintro e w5 ⟨rfl, hb5⟩)
      go_ret2
      exact ⟨rfl, HB1.out.trans ((hB.below.trans (hb5.mono hB.ge)).mono HB1.out.size)⟩
  case atStart =>
    refine ⟨0, rfl, ⟨by omega⟩, ⟨?_⟩⟩
    have e : lbody (l.take 0) = [] := rfl
    rw [e, List.append_nil]
    exact hI
theorem label_Put.calls (k : Nat) (A0 : Option Addr) (c0 : Nat) (l0 : List S52) (r1 : ByteArray) (r2 : Int) (w : World) (hr0 : Kd.C k52 w A0 l0.length l0) (hc0 : l0.length ≤ c0) (h : label_Put.f k l0 = some (r1, r2)) :
    Calls Tryz.prog 23 #[.slice A0 l0.length c0] w fun e w' => e = .returned (.tuple #[.string r1, .int .i64 r2]) ∧ Below w.heap.size w w' := by
  obtain ⟨t, ht, h⟩ := Option.bind_eq_some_iff.mp h
  obtain rfl := check_eq ht
  have h := Option.some.inj h
  unfold putL at h
  by_cases hc : chk l0 = 0
  · rw [if_pos hc] at h
    obtain ⟨rfl, rfl⟩ := Prod.mk.inj h
    exact put_good k A0 c0 l0 w hr0 hc0 ht hc
  · rw [if_neg hc] at h
    obtain ⟨rfl, rfl⟩ := Prod.mk.inj h
    exact put_bad k A0 c0 l0 w hr0 hc0 ht hc
end Go.Proofs.YthaegbiblblccaaGreatDoor.XEnt
