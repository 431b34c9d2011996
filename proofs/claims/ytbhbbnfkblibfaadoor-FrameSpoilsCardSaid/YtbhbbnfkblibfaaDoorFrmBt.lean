/- A row of bytes made of a text: its block bears a frozen mark behind its cells. The words for such a row that the printed walk of FrameSpoils needs. Conditions: those that each theorem names. -/
import Derived.Test.YtbhbbnfkblibfaaDoorXFrmx0
import Derived.Lib.ConvBytes
namespace Go.Proofs.YtbhbbnfkblibfaaDoor.Bt
open Go Go.RowKit Go.Proofs.YtbhbbnfkblibfaaDoorW.PrintWords Go.Proofs.YtbhbbnfkblibfaaDoorW.PrintLast Go.Proofs.YtbhbbnfkblibfaaDoorW.PrintMore Go.Proofs.YtbhbbnfkblibfaaDoor Go.Proofs.YtbhbbnfkblibfaaDoor.XFrm
set_option linter.unusedVariables false

/-- v holds just the bytes xs, in a block of the call's own with a mark behind it. -/
def R (w : World) (base : Nat) (ok : Nat → Prop) (v : Value) (xs : List Int) : Prop :=
  ∃ (g cap : Nat) (cells : Array Value), v = .slice (some ⟨g, 0, none⟩) xs.length cap ∧ xs.length ≤ cap ∧ xs.length ≤ 9223372036854775807 ∧ base ≤ g ∧ ok g ∧ w.heap[g]? = some (.cells cells 5 (cells.size, cells.size + 1)) ∧ xs.length ≤ cells.size ∧ ∀ i, i < xs.length → cells[i]? = some (.int .u8 (xs.getD i 0))
section
variable {w w1 : World} {base : Nat} {ok ok' : Nat → Prop} {v : Value} {xs : List Int}
theorem R_mono (h : R w base ok v xs) (hok : ∀ k, ok k → ok' k) : R w base ok' v xs := by
  obtain ⟨g, cap, cells, h1, h2, h3, h4, h5, h6⟩ := h
  exact ⟨g, cap, cells, h1, h2, h3, h4, hok g h5, h6⟩
theorem R_below (h : R w base ok v xs) (hb : Below w.heap.size w w1) : R w1 base ok v xs := by
  obtain ⟨g, cap, cells, h1, h2, h3, h4, h5, h6, h7⟩ := h
  exact ⟨g, cap, cells, h1, h2, h3, h4, h5, (hb.block g (Array.getElem?_eq_some_iff.1 h6).1).trans h6, h7⟩
theorem R_alloc (h : R w base ok v xs) (o : Obj) : R (w.alloc o) base ok v xs := R_below h (below_alloc (Below.refl _ _) o)
theorem R_drew (h : R w base ok v xs) : R w.drew base ok v xs := R_below h (below_drew (Below.refl _ _))
theorem R_drewN (h : R w base ok v xs) (m : Nat) : R (w.drewN m) base ok v xs := R_below h (pw_below_drewN (Below.refl _ _) m)
theorem R_lower {base' : Nat} (h : R w base ok v xs) (hb : base' ≤ base) : R w base' ok v xs := by
  obtain ⟨g, cap, cells, h1, h2, h3, h4, h5, h6⟩ := h
  exact ⟨g, cap, cells, h1, h2, h3, Nat.le_trans hb h4, h5, h6⟩
theorem R_far (h : R w base ok v xs) {p : Addr} (hok : ∀ k, ok k → k ≠ p.block) (u : Value) : R (w.setCell p u) base ok v xs := by
  obtain ⟨g, cap, cells, h1, h2, h3, h4, h5, h6, h7⟩ := h
  exact ⟨g, cap, cells, h1, h2, h3, h4, h5, (Below.heap_setCell w p u g (hok g h5)).trans h6, h7⟩
theorem R_types (h : R w base ok v xs) {g t : Nat} {cells : Array Value} (hb : w.heap[g]? = some (.cells cells t (0, 0))) (_ht : ∀ q, q ∈ (5 : Nat) :: [] → q ≠ t) : R w base (fun k => ok k ∧ k ≠ g) v xs := by
  obtain ⟨g', cap, cells', h1, h2, h3, h4, h5, h6, h7⟩ := h
  exact ⟨g', cap, cells', h1, h2, h3, h4, ⟨h5, fun e => by rw [e, hb] at h6; simp only [Option.some.injEq, Obj.cells.injEq, Prod.mk.injEq] at h6; omega⟩, h6, h7⟩
theorem R_slice (h : R w base ok v xs) : ∃ A c, v = .slice A xs.length c := by
  obtain ⟨g, cap, _, h1, _⟩ := h
  exact ⟨_, cap, h1⟩
theorem R_reads' {A : Option Addr} {n c : Nat} (h : R w base ok (.slice A n c) xs) : n = xs.length ∧ n ≤ c ∧ (Kd.int .u8).C w A xs.length xs := by
  obtain ⟨g, cap, cells, h1, h2, h3, h4, h5, h6, h7, h8⟩ := h
  injection h1 with e1 e2 e3
  subst e1; subst e2; subst e3
  refine ⟨rfl, h2, rfl, h3, fun _ => ⟨_, rfl, fun j p hj => ⟨[.int .u8 p], rfl, rfl, fun i u hu => ?_⟩⟩⟩
  have hjl : j < xs.length := (List.getElem?_eq_some_iff.1 hj).1
  have hp : xs.getD j 0 = p := by rw [List.getD_eq_getElem?_getD, hj]; rfl
  match i, hu with
  | 0, hu =>
    simp only [List.getElem?_cons_zero, Option.some.injEq] at hu
    subst hu
    have ha : (⟨g, 0, none⟩ : Addr).add (j * (Kd.int .u8).sz + 0) = ⟨g, 0 + j, none⟩ := by
      have : j * (Kd.int .u8).sz + 0 = j := Nat.mul_one j
      rw [this]
      unfold Addr.add; split <;> simp_all
    have h9 := h8 j hjl
    rw [hp] at h9
    rw [ha, Nat.zero_add]
    simp [World.cell?, h6, h9]
  | i + 1, hu => simp at hu
theorem R_form (h : R w base ok v xs) (_hp : 0 < xs.length) : ∃ g cap, v = .slice (some ⟨g, 0, none⟩) xs.length cap ∧ base ≤ g ∧ g < w.heap.size ∧ ∃ cells : Array Value, w.heap[g]? = some (.cells cells 5 (cells.size, cells.size + 1)) := by
  obtain ⟨g, cap, cells, h1, h2, h3, h4, h5, h6, _⟩ := h
  exact ⟨g, cap, h1, h4, (Array.getElem?_eq_some_iff.1 h6).1, cells, h6⟩
theorem R_celln {g n cap : Nat} (d : Int) (h : R w base ok (.slice (some ⟨g, 0, none⟩) n cap) xs) (i : Int) (h0 : 0 ≤ i) (hi : i < n) : w.cell? ⟨g, i.toNat, none⟩ = some (.int .u8 (rdOf d xs i)) ∧ w.frozen? ⟨g, i.toNat, none⟩ = false := by
  obtain ⟨g', cap', cells, h1, h2, h3, h4, h5, h6, h7, h8⟩ := h
  injection h1 with e1 e2 e3
  injection e1 with e1
  injection e1 with e1 _ _
  subst e1; subst e2
  have hil : i.toNat < xs.length := by omega
  constructor
  · have e : rdOf d xs i = xs.getD i.toNat 0 := by
      unfold rdOf
      rw [List.getD_eq_getElem?_getD, List.getD_eq_getElem?_getD, List.getElem?_eq_getElem hil]
      rfl
    have h9 := h8 _ hil
    rw [← e] at h9
    simp [World.cell?, h6, h9]
  · have : ¬ cells.size ≤ i.toNat := by omega
    simp [World.frozen?, h6, this]
theorem R_putg {g n cap : Nat} (h : R w base ok (.slice (some ⟨g, 0, none⟩) n cap) xs) (i : Int) (x : Int) : R (w.setCell ⟨g, i.toNat, none⟩ (.int .u8 x)) base ok (.slice (some ⟨g, 0, none⟩) n cap) (xs.set i.toNat x) ∧ w.grownBy (w.setCell ⟨g, i.toNat, none⟩ (.int .u8 x)) (some g) := by
  obtain ⟨g', cap', cells, h1, h2, h3, h4, h5, h6, h7, h8⟩ := h
  injection h1 with e1 e2 e3
  injection e1 with e1
  injection e1 with e1 _ _
  subst e1; subst e2; subst e3
  have hlt := (Array.getElem?_eq_some_iff.1 h6).1
  have hnew : (w.setCell ⟨g, i.toNat, none⟩ (.int .u8 x)).heap[g]? = some (.cells (cells.setIfInBounds i.toNat (.int .u8 x)) 5 (cells.size, cells.size + 1)) := by
    obtain ⟨_, hk⟩ := Array.getElem?_eq_some_iff.1 h6
    show (w.heap.modify g _)[g]? = _
    rw [Array.getElem?_eq_getElem (by rw [Array.size_modify]; exact hlt), Array.getElem_modify_self, hk]
    rfl
  refine ⟨⟨g, cap, cells.setIfInBounds i.toNat (.int .u8 x), by rw [List.length_set], by rw [List.length_set]; exact h2, by rw [List.length_set]; exact h3, h4, h5, ?_, by rw [List.length_set, Array.size_setIfInBounds]; exact h7, fun j hj => ?_⟩, ⟨rfl, rfl, rfl, ?_, fun k _ hk => Below.heap_setCell _ _ _ k (fun e => hk (by rw [e]))⟩⟩
  · rw [hnew, Array.size_setIfInBounds]
  · rw [List.length_set] at hj
    rw [Array.getElem?_setIfInBounds, List.getD_eq_getElem?_getD, List.getElem?_set]
    by_cases e : i.toNat = j
    · subst e
      rw [if_pos rfl, if_pos rfl, if_pos (by omega), if_pos hj]
      rfl
    · rw [if_neg e, if_neg e, h8 j hj, List.getD_eq_getElem?_getD]
  · show _ ≤ (w.heap.modify g _).size
    rw [Array.size_modify]; exact Nat.le_refl _
/-- Another row, of an unmarked block, is not touched by a store into this one. -/
theorem over {α : Type} {d : Kd α} {e base' n cap g : Nat} {ok2 : Nat → Prop} {u : Value} {ys : List α} (hu : d.R e w base' ok2 u ys) (h : R w base ok (.slice (some ⟨g, 0, none⟩) n cap) xs) (hg : w.grownBy w1 (some g)) : d.R e w1 base' ok2 u ys := by
  obtain ⟨g', cap', cells, h1, h2, h3, h4, h5, h6, h7, h8⟩ := h
  injection h1 with e1 e2 e3
  injection e1 with e1
  injection e1 with e1 _ _
  subst e1
  refine Kd.R_mono (Kd.R_move (Kd.R_bound hu) (fun k hk => hg.block k hk.2.2.1 (fun e => ?_))) (fun _ hk => hk.1)
  obtain ⟨_, _, _, q, _, c, hc⟩ := hk
  injection e with e
  rw [e, h6] at hc
  simp only [Option.some.injEq, Obj.cells.injEq, Prod.mk.injEq] at hc
  omega
theorem conv {src dst : TypeId} (hs : Tryd.prog.underlying src = some (.slice 5)) (he : Tryd.prog.underlying 5 = some (.int .u8)) (hd : Tryd.prog.underlying dst = some .string) (h : R w base ok v xs) : (convert src dst v).run Tryd.prog w = .ok (.string (strOfNums xs)) w := by
  obtain ⟨g, cap, cells, rfl, h2, h3, h4, h5, h6, h7, h8⟩ := h
  refine run_convert_bytes_arg w src 5 hs he g 0 xs.length cap xs rfl (fun i hi => ?_) dst hd
  simp [World.cell?, h6, h8 i hi]
end
section
variable {P : Program} {ops : Array Oper} {rest : List Oper} {o : Oper} {a : Act} {Q : Exit → Act → World → Prop}
theorem below_bytes (W : World) (e : TypeId) (s : ByteArray) : Below W.heap.size W (Lib.bytesWorld W e s) :=
  ⟨rfl, rfl, rfl, by rw [Lib.bytesWorld_size]; omega, fun k hk => Lib.bytesWorld_at_old W e s k hk⟩
theorem R_conv {W : World} {base : Nat} {w0 : World} (hgd : o.guard = none) {N : Tmp} (_hd : o.dst = some N) {s : ByteArray} (hs : s.size ≤ 9223372036854775807)
    (hrun : (execOp a.eval o).run P W = .ok (.value (.slice (some ⟨W.heap.size, 0, none⟩) s.size (grownCap W s.size 0 5))) (Lib.bytesWorld W 5 s))
    (HB : Below base w0 W) (hbase : base ≤ W.heap.size)
    (h : ∀ v1 w1, R w1 base (fun _ => True) v1 (bytesOf s) → Below base w0 w1 → True → True → wpList P ops Q rest (a.put o.dst v1) w1) : wpList P ops Q (o :: rest) a W := by
  have hl := bytesOf_length s
  refine Kd.event_run hgd hrun (h _ _ ⟨W.heap.size, grownCap W s.size 0 5, Lib.bytesCells W 5 s, by rw [hl], by rw [hl]; exact grownCap_ge _ _ _ _, by rw [hl]; exact hs, hbase, trivial, Lib.bytesWorld_at_new W 5 s, ?_, fun i hi => ?_⟩ (HB.trans ((below_bytes W 5 s).mono hbase)) trivial trivial)
  · rw [hl]; unfold Lib.bytesCells; rw [Array.size_append, Array.size_map]; exact Nat.le_add_right _ _
  · rw [hl] at hi
    have hi2 : i < s.data.size := hi
    unfold Lib.bytesCells
    rw [Array.getElem?_append_left (by simpa using hi2), Array.getElem?_map, Array.getElem?_eq_getElem hi2]
    simp [bytesOf, List.getD_eq_getElem?_getD, List.getElem?_map]
    rw [Array.getElem?_eq_getElem hi2]
    rfl
theorem conv_run {W : World} {x : Operand} {s : ByteArray} (ho : o.op = .convert 9 34 x) (hx : a.eval x = .string s) : (execOp a.eval o).run Tryd.prog W = .ok (.value (.slice (some ⟨W.heap.size, 0, none⟩) s.size (grownCap W s.size 0 5))) (Lib.bytesWorld W 5 s) := by
  have h := Lib.run_convert_string_bytes (P := Tryd.prog) W 9 34 5 s Tryd.underlying9 Tryd.underlying34 Tryd.underlying5
  unfold execOp
  rw [ho]
  simp [hx, h, Result.andThen]
end
end Go.Proofs.YtbhbbnfkblibfaaDoor.Bt
