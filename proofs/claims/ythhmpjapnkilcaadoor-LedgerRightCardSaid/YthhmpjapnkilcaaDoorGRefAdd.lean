/- postroomref10.Add of the given program: an entry more: each destination's row of kinds gets one that is pending. Conditions: those of copied; a million destinations, a million entries. -/
import Derived.Test.YthhmpjapnkilcaaDoorGBox
import Derived.Test.YthhmpjapnkilcaaDoorXLdgP1
namespace Go.Proofs.YthhmpjapnkilcaaDoor.XLdg
open Go Go.RowKit Go.Proofs.YthhmpjapnkilcaaDoorW.PrintWords Go.Proofs.YthhmpjapnkilcaaDoorW.PrintLast Go.Proofs.YthhmpjapnkilcaaDoorW.PrintMore Go.Proofs.YthhmpjapnkilcaaDoor.Num
set_option linter.unusedVariables false
set_option linter.unusedSimpArgs false
abbrev RD := S84
def radd (l : List RD) : List RD := l.map fun x => ⟨x.f0, x.f1, x.f2 ++ [112]⟩
theorem radd_len (l : List RD) : (radd l).length = l.length := List.length_map ..
theorem radd_step (l : List RD) (i : Nat) (h : i < l.length) : (radd (l.take i) ++ l.drop i).set i ⟨l[i].f0, l[i].f1, l[i].f2 ++ [112]⟩ = radd (l.take (i + 1)) ++ l.drop (i + 1) := by
  rw [List.drop_eq_getElem_cons h, List.set_append_right _ _ (by rw [radd_len, List.length_take]; omega), radd_len, List.length_take, Nat.min_eq_left (by omega), Nat.sub_self, List.set_cons_zero, ← List.take_append_getElem h]
  unfold radd
  rw [List.map_append, List.append_assoc]
  rfl
def postroomref10_Add.f (k : Nat) (a0_0 a0_1 : Int) (l0_2 : List RD) : Option (Int × Int × List RD) :=
  (postroomref10_copied.f k a0_0 a0_1 l0_2).bind fun q => if q.2.2.length ≤ 1000000 ∧ ∀ x ∈ q.2.2, x.f2.length ≤ 1000000 then some (q.1, IntKind.u64.wrap (q.2.1 + 1), radd q.2.2) else none
set_option maxHeartbeats 8000000 in
set_option maxRecDepth 100000 in
theorem postroomref10_Add.calls (k : Nat) (a0_0 : Int) (a0_1 : Int) (A0_2 : Option Addr) (c0_2 : Nat) (l0_2 : List RD) (r1 : Int) (r2 : Int) (r3 : List RD) (w : World) (hr0_2 : Kd.C k84 w A0_2 l0_2.length l0_2) (hc0_2 : l0_2.length ≤ c0_2) (h : postroomref10_Add.f k a0_0 a0_1 l0_2 = some (r1, r2, r3)) :
    Calls Tryd.prog 39 #[.agg #[.int .u64 a0_0, .int .u64 a0_1, .slice A0_2 l0_2.length c0_2]] w fun e w' => ∃ v2_ : Value, e = .returned (.agg #[.int .u64 r1, .int .u64 r2, v2_]) ∧ Kd.S k84 84 w' w.heap.size (fun _ => True) v2_ r3 ∧ Below w.heap.size w w' := by
  unfold postroomref10_Add.f at h
  obtain ⟨⟨t1, t2, l⟩, hq, h⟩ := Option.bind_eq_some_iff.1 h
  simp only at h
  by_cases c1 : l.length ≤ 1000000 ∧ ∀ x ∈ l, x.f2.length ≤ 1000000
  · rw [if_pos c1] at h
    simp only [Option.some.injEq, Prod.mk.injEq] at h
    obtain ⟨rfl, rfl, rfl⟩ := h
    have HR0 := Aside0.mk hr0_2
    have HC0 := Aside0.mk hc0_2
    have HQ := Lib.hid hq
    have HC1 := Lib.hid c1
    clear hr0_2 hc0_2 hq c1
    go_enter Tryd.func39, Tryd.ntmps39
    go_wp2_with fail
    have hr0 : ((w.alloc (.cells #[.int .u64 a0_0, .int .u64 a0_1, .slice A0_2 l0_2.length c0_2] 57)).alloc (.cells #[.int .u64 0, .int .u64 0, .slice none 0 0] 57)).heap[w.heap.size + 1]? = some (.cells #[.int .u64 0, .int .u64 0, .slice none 0 0] 57 (0, 0)) := by simpa using blk_new (w.alloc (.cells #[.int .u64 a0_0, .int .u64 a0_1, .slice A0_2 l0_2.length c0_2] 57)) (.cells #[.int .u64 0, .int .u64 0, .slice none 0 0] 57)
    have hb3 : Below w.heap.size w ((w.alloc (.cells #[.int .u64 a0_0, .int .u64 a0_1, .slice A0_2 l0_2.length c0_2] 57)).alloc (.cells #[.int .u64 0, .int .u64 0, .slice none 0 0] 57)) := below_alloc (below_alloc (Below.refl _ _) _) _
    generalize ((w.alloc (.cells #[.int .u64 a0_0, .int .u64 a0_1, .slice A0_2 l0_2.length c0_2] 57)).alloc (.cells #[.int .u64 0, .int .u64 0, .slice none 0 0] 57)) = w3 at hr0 hb3 ⊢
    have HB3 := Aside0.mk hb3
    have HR3 := Aside0.mk hr0
    clear hr0 hb3
    refine (postroomref10_copied.calls k a0_0 a0_1 A0_2 c0_2 l0_2 t1 t2 l w3 (Kd.C_below HR0.out HB3.out) HC0.out HQ.out).mono ?_
    rintro e w4 ⟨v4, rfl, hS4, hb4⟩
    obtain ⟨Ag, co, rfl⟩ := Kd.S_slice hS4
    have HB4 := Aside0.mk (below_step HB3.out hb4)
    have HR4 := Aside0.mk (blk_below HR3.out hb4)
    have HS4 := Aside0.mk (Kd.S_lower hS4 HB3.out.size)
    have hlt4 := blk_lt HR4.out
    have hne4 : w4.heap.size ≠ w.heap.size + 1 := by omega
    have hne5 : w.heap.size + 1 ≠ w4.heap.size := by omega
    clear hS4 hb4 hlt4
    obtain ⟨n0, hn0⟩ : ∃ n0, l.length = n0 := ⟨_, rfl⟩
    have HN0 := Lib.hid hn0
    rw [hn0]
    rw [hn0] at HS4
    clear hn0
    have hn6 : n0 ≤ 1000000 := by have h1 := HC1.out.1; have h2 := HN0.out; omega
    go_wp2
    have HO5 := Aside0.mk (blk_new w4 (.cells #[.int .u64 t1, .int .u64 (IntKind.u64.wrap (t2 + 1)), .slice Ag n0 co] 57))
    have HR5 := Aside0.mk (blk_alloc HR4.out (.cells #[.int .u64 t1, .int .u64 (IntKind.u64.wrap (t2 + 1)), .slice Ag n0 co] 57))
    have HB5 := Aside0.mk (below_alloc HB4.out (.cells #[.int .u64 t1, .int .u64 (IntKind.u64.wrap (t2 + 1)), .slice Ag n0 co] 57))
    have HS5 := Aside0.mk (Kd.S_alloc HS4.out (.cells #[.int .u64 t1, .int .u64 (IntKind.u64.wrap (t2 + 1)), .slice Ag n0 co] 57))
    have HGE := Aside0.mk HB4.out.size
    generalize (w4.alloc (.cells #[.int .u64 t1, .int .u64 (IntKind.u64.wrap (t2 + 1)), .slice Ag n0 co] 57)) = w5 at HO5 HR5 HB5 HS5 ⊢
    clear HB4 HR4 HS4 HB3 HR3
    generalize w4.heap.size = ob at hne4 hne5 HO5 HGE ⊢
    go_loopg [4] (n0 + 1) (fun kq v4 W => ∃ (i : Nat) (cur : List RD), v4 = .int .i64 (i : Int) ∧ Aside0 (i + kq = n0 + 1 ∧ i ≤ n0 ∧ cur.length = n0 ∧ cur = radd (l.take i) ++ l.drop i) ∧ Aside0 (Below w.heap.size w W) ∧ Aside0 (W.heap[ob]? = some (.cells #[.int .u64 t1, .int .u64 (IntKind.u64.wrap (t2 + 1)), .slice Ag n0 co] 57 (0, 0))) ∧ Aside0 (W.heap[w.heap.size + 1]? = some (.cells #[.int .u64 0, .int .u64 0, .slice none 0 0] 57 (0, 0))) ∧ Aside0 (Kd.S k84 84 W w.heap.size (fun _ => True) (.slice Ag n0 co) cur))
    case atStart => exact ⟨0, l, rfl, ⟨by omega, by omega, HN0.out, by simp [radd]⟩, HB5, HO5, HR5, HS5⟩
    case round =>
      obtain ⟨i, cur, rfl, HA, HB6, HO6, HR6, HS6⟩ := hrel
      clear HB5 HO5 HR5 HS5
      have hwrap : wrap64 ((i : Int) + 1) = (i : Int) + 1 := by have := HA.out.2.1; unfold wrap64; omega
      have ho0 : wr.cell? ⟨ob, 0, none⟩ = some (.int .u64 t1) := (blk_cell HO6.out 0).trans rfl
      have ho1 : wr.cell? ⟨ob, 1, none⟩ = some (.int .u64 (IntKind.u64.wrap (t2 + 1))) := (blk_cell HO6.out 1).trans rfl
      have ho2 : wr.cell? ⟨ob, 2, none⟩ = some (.slice Ag n0 co) := (blk_cell HO6.out 2).trans rfl
      by_cases c : i < n0
      · have cb3 := decide_eq_true (show (i : Int) < (n0 : Int) by omega)
        have cp : (0 : Int) ≤ (i : Int) := by omega
        have cl : (i : Int) < (n0 : Int) := by omega
        obtain ⟨g, cap', eg, hg1, hg2, _⟩ := Kd.S_form HS6.out (by have := HA.out.2.2.1; omega)
        injection eg with eg eg1 eg2
        clear eg1 eg2
        subst eg
        have hS7 := Kd.S_types (Kd.S_types (Kd.S_bound HS6.out) HO6.out (by decide)) HR6.out (by decide)
        have hgo := (Kd.S_R hS7).1 g rfl
        have hS8 := Kd.S_mono (ok' := fun k_ => k_ ≠ ob ∧ k_ ≠ w.heap.size + 1 ∧ k_ < wr.heap.size) hS7 (fun k_ hk_ => ⟨hk_.1.2, hk_.2, hk_.1.1.2.2.1⟩)
        obtain ⟨oki, cs, hcl, hM, hcc, hfz, hoki, hH⟩ := Kd.S_elem hS8 z84 (i : Int) cp cl
        have c4 : i < l.length := by have := HN0.out; omega
        have hxx : cur.getD ((i : Int)).toNat z84 = l[i] := by
          rw [Int.toNat_natCast, HA.out.2.2.2, List.getD_eq_getElem?_getD, List.getElem?_append_right (by rw [radd_len, List.length_take]; omega), radd_len, List.length_take, Nat.min_eq_left (by omega), Nat.sub_self, List.getElem?_drop, Nat.add_zero, List.getElem?_eq_getElem c4]; rfl
        rw [hxx] at hM
        have hlx : l[i].f2.length ≤ 1000000 := HC1.out.2 _ (List.getElem_mem c4)
        obtain ⟨x, hx⟩ : ∃ x, l[i] = x := ⟨_, rfl⟩
        rw [hx] at hM hlx
        obtain ⟨v2, rfl, hR⟩ := k84_openM hM
        obtain ⟨A2, c2, rfl⟩ := Kd.R_slice hR
        rw [Int.toNat_natCast] at hcc hfz
        have hx0 : wr.cell? ⟨g, i * 3, none⟩ = some (.string x.f0) := hcc 0 _ rfl
        have hx1 : wr.cell? ⟨g, i * 3 + 1, none⟩ = some (.int .u64 x.f1) := hcc 1 _ rfl
        have hx2 : wr.cell? ⟨g, i * 3 + 2, none⟩ = some (.slice A2 x.f2.length c2) := hcc 2 _ rfl
        have HX := Lib.hid hx
        have HRV := Aside0.mk hR
        have HH := Aside0.mk hH
        have HOK := Aside0.mk hoki
        have HLX := Aside0.mk hlx
        have HG := Aside0.mk (show w.heap.size ≤ g ∧ g < wr.heap.size ∧ g ≠ ob ∧ g ≠ w.heap.size + 1 from ⟨hg1, hg2, hgo.1.2, hgo.2⟩)
        clear hS7 hS8 hgo hcc hfz hcl hM hxx hx hR hH hoki hlx hg1 hg2
        have hlt := blk_lt HO6.out
        have hq1 : ob ≠ wr.heap.size := by omega
        have hq2 : g ≠ wr.heap.size := by have := HG.out.2.1; omega
        clear hlt
        go_wp2_with (first
          | (at_builtin; refine Kd.R_append (Kd.int .u8) (w0 := w) w.heap.size rfl (.tmp 25) (.tmp 26) 82 5 (.int .u8 0) 1 rfl Tryd.underlying82 info5 rfl (by decide) (by omega) (.slice A2 x.f2.length c2) x.f2 112 [.int .u8 112] (fun k_ => oki k_ ∨ wr.heap.size < k_) (fun _ => False) rfl ?hx ?hp (fun _ h => h.elim) (fun k_ hk_ => .inr (by simp at hk_; omega)) (Kd.R_alloc (Kd.R_mono HRV.out (fun _ hk_ => .inl hk_)) _) (below_alloc HB6.out _) (below_alloc HB6.out _).size ?hl ?_; (case hx => simp [Act.eval, Act.put]); (case hp => first | rfl | exact ⟨rfl, rfl⟩ | exact ⟨_, rfl⟩); (case hl => have := HLX.out; omega); intro v1 w1 hR1 hb1 hg1 hat1
             obtain ⟨A9, c9, rfl⟩ := Kd.R_slice hR1
             have hv2 : ∀ k_, (Value.slice A2 x.f2.length c2).ownBlock = some k_ → oki k_ := HRV.out.1
             have hv3 := Kd.R_lt HRV.out
             have hD1 := blk_grown (blk_new wr (.cells #[.string x.f0, .int .u64 x.f1, .slice A2 x.f2.length c2] 84)) hg1 (fun he => by have := hv3 _ he.symm; omega)
             have hO1 := blk_grown (blk_alloc HO6.out (.cells #[.string x.f0, .int .u64 x.f1, .slice A2 x.f2.length c2] 84)) hg1 (fun he => (HOK.out _ (hv2 _ he.symm)).1.1 rfl)
             have hZ1 := blk_grown (blk_alloc HR6.out (.cells #[.string x.f0, .int .u64 x.f1, .slice A2 x.f2.length c2] 84)) hg1 (fun he => (HOK.out _ (hv2 _ he.symm)).1.2.1 rfl)
             have hH1 := Kd.H_grown (Kd.H_alloc HH.out (.cells #[.string x.f0, .int .u64 x.f1, .slice A2 x.f2.length c2] 84)) hg1 hv2
             obtain ⟨hcc, hfz⟩ := Kd.H_at hH1 cp cl
             rw [Int.toNat_natCast] at hcc hfz
             have HD1 := Aside0.mk hD1
             have HO1 := Aside0.mk hO1
             have HZ1 := Aside0.mk hZ1
             have HH1 := Aside0.mk hH1
             have HB1 := Aside0.mk hb1
             have HR1 := Aside0.mk hR1
             clear ho0 ho1 ho2 hx0 hx1 hx2
             have ho2 : w1.cell? ⟨ob, 2, none⟩ = some (.slice (some ⟨g, 0, none⟩) n0 co) := (blk_cell hO1 2).trans rfl
             have hd0 : w1.cell? ⟨wr.heap.size, 0, none⟩ = some (.string x.f0) := (blk_cell hD1 0).trans rfl
             have hd1 : w1.cell? ⟨wr.heap.size, 1, none⟩ = some (.int .u64 x.f1) := (blk_cell hD1 1).trans rfl
             have hd2 : w1.cell? ⟨wr.heap.size, 2, none⟩ = some (.slice A2 x.f2.length c2) := (blk_cell hD1 2).trans rfl
             have hdf := blk_frozen hD1
             have hx0 : w1.cell? ⟨g, i * 3, none⟩ = some (.string x.f0) := hcc 0 _ rfl
             have hx1 : w1.cell? ⟨g, i * 3 + 1, none⟩ = some (.int .u64 x.f1) := hcc 1 _ rfl
             have hx2 : w1.cell? ⟨g, i * 3 + 2, none⟩ = some (.slice A2 x.f2.length c2) := hcc 2 _ rfl
             have hy0 : w1.frozen? ⟨g, i * 3, none⟩ = false := hfz 0
             have hy1 : w1.frozen? ⟨g, i * 3 + 1, none⟩ = false := hfz 1
             have hy2 : w1.frozen? ⟨g, i * 3 + 2, none⟩ = false := hfz 2
             clear hv2 hv3 hD1 hO1 hZ1 hH1 hcc hfz hb1 hR1 hg1 hat1))
        go_roundg (n0 - i)
        case measure => have := HA.out.1; omega
        case rel =>
          have hxe := HX.out
          have hlen : (x.f2 ++ [112]).length = x.f2.length + 1 := by rw [List.length_append]; rfl
          have hHf := Kd.H_mono (ok' := fun k_ => True ∧ ¬ (wr.heap.size < k_)) (Kd.H_far (p := ⟨wr.heap.size, 2, none⟩) HH1.out (fun k_ hk_ => by have := hk_.2.2; simp only; omega) (.slice A9 (x.f2.length + 1) c9)) (fun k_ hk_ => ⟨trivial, by have := hk_.2.2; omega⟩)
          have hRf := Kd.R_far (p := ⟨wr.heap.size, 2, none⟩) HR1.out (fun k_ hk_ => (hk_.elim (fun h_ => Nat.ne_of_lt (HOK.out _ h_).1.2.2) (fun h_ => Nat.ne_of_gt h_) : k_ ≠ wr.heap.size)) (.slice A9 (x.f2.length + 1) c9)
          rw [hlen] at hRf
          have hSf := (Kd.S_seg (ok := fun _ => True) (okg := fun k_ => wr.heap.size < k_) (x' := (⟨x.f0, x.f1, x.f2 ++ [112]⟩ : RD)) hHf cp cl (seg := [.string x.f0, .int .u64 x.f1, .slice A9 (x.f2.length + 1) c9]) (j := 0) (show (3 : Nat) ≤ 3 from Nat.le_refl _) (k84_mkM _ _ _ (⟨x.f0, x.f1, x.f2 ++ [112]⟩ : RD) hRf) (fun k_ hk_ => hk_) (fun k_ hk_ => ⟨trivial, by have := HG.out.2.1; omega⟩)).1
          rw [Int.toNat_natCast] at hSf
          have hge := HB6.out.size
          refine ⟨i + 1, cur.set i ⟨x.f0, x.f1, x.f2 ++ [112]⟩, rfl, ⟨?_, ?_, ?_, ?_⟩, ⟨?_⟩, ⟨?_⟩, ⟨?_⟩, ⟨?_⟩⟩
          · have := HA.out.1; omega
          · omega
          · rw [List.length_set]; exact HA.out.2.2.1
          · have h1 := radd_step l i (by have := HN0.out; omega)
            rw [hxe] at h1
            rw [HA.out.2.2.2, h1]
          · exact (((HB1.out.setCell (p := ⟨wr.heap.size, 2, none⟩) hge _).setCell (p := ⟨g, i * 3, none⟩) HG.out.1 _).setCell (p := ⟨g, i * 3 + 1, none⟩) HG.out.1 _).setCell (p := ⟨g, i * 3 + 2, none⟩) HG.out.1 _
          · exact blk_far (blk_far (blk_far (blk_far HO1.out hq1 _) HG.out.2.2.1.symm _) HG.out.2.2.1.symm _) HG.out.2.2.1.symm _
          · have hq3 : w.heap.size + 1 ≠ wr.heap.size := by have := blk_lt HR6.out; omega
            exact blk_far (blk_far (blk_far (blk_far HZ1.out hq3 _) HG.out.2.2.2.symm _) HG.out.2.2.2.symm _) HG.out.2.2.2.symm _
          · exact hSf
      · have cb3 := decide_eq_false (show ¬ (i : Int) < (n0 : Int) by omega)
        have hie : i = n0 := by have := HA.out.2.1; omega
        subst hie
        have hcur : cur = radd l := by have h1 := HA.out.2.2.2; rw [List.take_of_length_le (by have := HN0.out; omega), List.drop_eq_nil_of_le (by have := HN0.out; omega), List.append_nil] at h1; exact h1
        subst hcur
        have HLN := Lib.hid HA.out.2.2.1
        have hf2 := blk_frozen HR6.out
        have hd0 : wr.cell? ⟨w.heap.size + 1, 0, none⟩ = some (.int .u64 0) := (blk_cell HR6.out 0).trans rfl
        have hd1 : wr.cell? ⟨w.heap.size + 1, 1, none⟩ = some (.int .u64 0) := (blk_cell HR6.out 1).trans rfl
        have hd2 : wr.cell? ⟨w.heap.size + 1, 2, none⟩ = some (.slice none 0 0) := (blk_cell HR6.out 2).trans rfl
        go_wp2
        refine bodyPost_ret (results_cell_row rfl _ _ (w.heap.size + 1) 57 #[.int .u64 t1, .int .u64 (IntKind.u64.wrap (t2 + 1)), .slice Ag i co] (0, 0) _ rfl (blk_put (cs := #[.int .u64 t1, .int .u64 (IntKind.u64.wrap (t2 + 1)), .slice none 0 0]) (blk_put (cs := #[.int .u64 t1, .int .u64 0, .slice none 0 0]) (blk_put (cs := #[.int .u64 0, .int .u64 0, .slice none 0 0]) HR6.out 0 _ rfl) 1 _ rfl) 2 _ rfl) Tryd.underlying57 rfl (by kernel_rfl)) rfl ?_
        have hge : w.heap.size ≤ w.heap.size + 1 := Nat.le_succ _
        exact ⟨_, rfl, Kd.S_mono (Kd.S_far (p := ⟨w.heap.size + 1, 2, none⟩) (Kd.S_far (p := ⟨w.heap.size + 1, 1, none⟩) (Kd.S_far (p := ⟨w.heap.size + 1, 0, none⟩) (Kd.S_types HS6.out HR6.out (by decide)) (fun _ hk => hk.2) _) (fun _ hk => hk.2) _) (fun _ hk => hk.2) _) (fun _ hk => trivial), ((HB6.out.setCell (p := ⟨w.heap.size + 1, 0, none⟩) hge _).setCell (p := ⟨w.heap.size + 1, 1, none⟩) hge _).setCell (p := ⟨w.heap.size + 1, 2, none⟩) hge _⟩
  · rw [if_neg c1] at h; cases h
end Go.Proofs.YthhmpjapnkilcaaDoor.XLdg
