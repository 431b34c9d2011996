/- A range over a map of names; the disk's Used. Conditions: counts below a million. -/
import Derived.Test.YtolbicncdookmaaDskCreate
import Derived.Maps.RangeWalk
import Derived.Sort.KeysCollected

namespace Go.Proofs.Ytolbicncdookmaa.XDsk
open Go Go.RowKit Go.Maps Go.Proofs.YtolbicncdookmaaW.PrintWords Go.Proofs.YtolbicncdookmaaW.PrintLast Go.Proofs.YtolbicncdookmaaW.PrintMore Go.Proofs.Ytolbicncdookmaa.Num
set_option linter.unusedVariables false
set_option linter.unusedSimpArgs false
/-- Those names that are still to come. -/
def leftN (left : Lit → Bool) (m : Names) : Names := m.filter (fun p => left (.string p.1.data.toList))
def Dist (m : Names) : Prop := m.Pairwise (fun p q => p.1.data.toList ≠ q.1.data.toList)
theorem MapAt.dist {w : World} {g : Nat} {m : Names} (h : MapAt w g m) : Dist m := by
  obtain ⟨es, he, hp, _⟩ := World.ownsMap.entries h law_s
  unfold mapD at he
  injection he with he
  rw [← he, List.pairwise_map] at hp
  exact hp.imp (fun {a b} hab e => hab (by show (Lit.string a.1.data.toList) = (Lit.string b.1.data.toList); rw [e]))
theorem left_start (m : Names) : leftN (Maps.has (mapD m)) m = m := by
  unfold leftN
  rw [List.filter_eq_self]
  intro p hp
  rw [has_mapD]
  unfold getN
  rw [Option.isSome_map, List.find?_isSome]
  exact ⟨p, hp, by unfold isK; simp⟩
theorem left_end {left : Lit → Bool} (h : ∀ kl, left kl = false) (m : Names) : leftN left m = [] := by
  unfold leftN
  rw [List.filter_eq_nil_iff]
  intro p _
  rw [h]; decide
theorem usedN_cons (S : PD) (p : ByteArray × Int) (l : Names) : usedN S (p :: l) = ((nowOf S p.2).size : Int) + usedN S l := by unfold usedN; rw [List.map_cons, List.sum_cons]
theorem isK_iff {s : ByteArray} {p : ByteArray × Int} : isK s p = true ↔ p.1.data.toList = s.data.toList := by unfold isK; simp
theorem left_step {left : Lit → Bool} {s : ByteArray} {c : Int} (S : PD) : ∀ (m : Names), Dist m → getN m s = some c → left (.string s.data.toList) = true →
    usedN S (leftN left m) = usedN S (leftN (fun z => left z && !z.sameKey (.string s.data.toList)) m) + ((nowOf S c).size : Int)
  | [], _, hg, _ => by cases hg
  | y :: l, hd, hg, hl => by
    obtain ⟨h1, h2⟩ := List.pairwise_cons.1 hd
    by_cases hy : isK s y = true
    · have hyk := isK_iff.1 hy
      have hc : y.2 = c := by
        unfold getN at hg
        rw [List.find?_cons_of_pos hy] at hg
        injection hg
      have e1 : leftN left (y :: l) = y :: leftN left l := by unfold leftN; rw [List.filter_cons_of_pos (by rw [hyk]; exact hl)]
      have e2 : leftN (fun z => left z && !z.sameKey (.string s.data.toList)) (y :: l) = leftN left l := by
        unfold leftN
        rw [List.filter_cons_of_neg (by rw [hyk]; simp [Lit.sameKey])]
        refine List.filter_congr (fun p hp => ?_)
        have := h1 p hp
        have hne : (p.1.data.toList == s.data.toList) = false := by rw [← hyk]; exact beq_eq_false_iff_ne.2 (fun e => this e.symm)
        show (left _ && !(p.1.data.toList == s.data.toList)) = _
        rw [hne]; simp
      rw [e1, e2, usedN_cons, hc]; omega
    · have hy0 : isK s y = false := by simpa using hy
      have hg' : getN l s = some c := by
        unfold getN at hg ⊢
        rwa [List.find?_cons_of_neg (by simp [hy0])] at hg
      have ih := left_step S l h2 hg' hl
      have hk : (Lit.string y.1.data.toList).sameKey (.string s.data.toList) = false := hy0
      by_cases hly : left (.string y.1.data.toList) = true
      · have e1 : leftN left (y :: l) = y :: leftN left l := by unfold leftN; rw [List.filter_cons_of_pos (by exact hly)]
        have e2 : leftN (fun z => left z && !z.sameKey (.string s.data.toList)) (y :: l) = y :: leftN (fun z => left z && !z.sameKey (.string s.data.toList)) l := by unfold leftN; rw [List.filter_cons_of_pos (by show (left (.string y.1.data.toList) && !(Lit.string y.1.data.toList).sameKey (.string s.data.toList)) = true; rw [hly, hk]; rfl)]
        rw [e1, e2, usedN_cons, usedN_cons, ih]; omega
      · have e1 : leftN left (y :: l) = leftN left l := by unfold leftN; rw [List.filter_cons_of_neg (by exact hly)]
        have e2 : leftN (fun z => left z && !z.sameKey (.string s.data.toList)) (y :: l) = leftN (fun z => left z && !z.sameKey (.string s.data.toList)) l := by
          unfold leftN; rw [List.filter_cons_of_neg (by simp [hly])]
        rw [e1, e2, ih]
theorem usedN_nonneg (S : PD) : ∀ l : Names, 0 ≤ usedN S l
  | [] => Int.le_refl 0
  | p :: l => by rw [usedN_cons]; have := usedN_nonneg S l; omega
theorem nowOf_le {S : PD} (hS : Lim S) (i : Int) : (nowOf S i).size ≤ 1000000 := by
  unfold nowOf
  cases h : S.files[i.toNat]? with
  | none => show ByteArray.empty.size ≤ 1000000; decide
  | some f => exact (hS.size f (List.mem_of_getElem? h)).1
theorem usedN_le {S : PD} (hS : Lim S) : ∀ l : Names, usedN S l ≤ 1000000 * (l.length : Int)
  | [] => by unfold usedN; simp
  | p :: l => by
    rw [usedN_cons]
    have := usedN_le hS l
    have := nowOf_le hS p.2
    simp only [List.length_cons]; omega
theorem usedD_bd {S : PD} (hS : Lim S) : 0 ≤ usedD S ∧ usedD S ≤ 1000000000000 := by
  refine ⟨usedN_nonneg S _, ?_⟩
  have := usedN_le hS S.names
  have := hS.count
  unfold usedD; omega
/-- The step of a range over a map of names. -/
theorem wp_next_names (w : World) {ops : Array Oper} {rest : List Oper} {o : Oper} {a : Act} {Q : Exit → Act → World → Prop} (hg : o.guard = none) (it : Operand) (hop : o.op = Op.next it false) (b r n : Nat) (m : Names) (left : Lit → Bool) (cnt : Nat)
    (hit : a.eval it = .pointer (some ⟨r, 0, none⟩)) (h : w.ranges Try.prog 9 (plainElem Try.prog 3) b r n (mapD m) left cnt)
    (hDone : cnt = 0 → (∀ kl, left kl = false) → wpList Try.prog ops Q rest (a.put o.dst (.tuple #[.bool false])) w)
    (hMore : ∀ (s : ByteArray) (c : Int) (w' : World) (cnt' : Nat), left (.string s.data.toList) = true → s.size ≤ maxLen → getN m s = some c → w'.ranges Try.prog 9 (plainElem Try.prog 3) b r n (mapD m) (fun z => left z && !z.sameKey (.string s.data.toList)) cnt' → cnt' < cnt →
      w.grownBy w' (some r) → w'.heap.size = w.heap.size → (Instr.entry (.pointer (some ⟨r, 0, none⟩))).run Try.prog w' = .ok (.tuple #[.string s, .int .i64 c]) w' → wpList Try.prog ops Q rest (a.put o.dst (.tuple #[.bool true, .string s, .int .i64 c])) w') :
    wpList Try.prog ops Q (o :: rest) a w := by
  refine wpList_next_ranges w hg it hop 9 law_s (plainElem Try.prog 3) encStr (Value.int .i64) (fun key kl hk => by obtain ⟨x, hx, _⟩ := Maps.keyOf_str Try.underlying9 hk; exact ⟨x, hx⟩) (fun v y hv => by obtain ⟨c, rfl, _⟩ := plainElem_int_inv Try.underlying3 hv; exact ⟨c, rfl⟩) b r n (mapD m) left cnt hit h hDone ?_
  intro x c kl y w2 cnt2 hkey hlk hv hat hrg2 hlt hg2 hs2 hen
  obtain ⟨x', ex, rfl, hxl⟩ := Maps.keyOf_str Try.underlying9 hkey
  obtain rfl : x = x' := encStr_inj ex
  have hs : (⟨x.toArray⟩ : ByteArray).data.toList = x := by simp
  refine hMore ⟨x.toArray⟩ c w2 cnt2 (by rw [hs]; exact hlk) (by simpa [ByteArray.size] using hxl) ?_ (by rw [hs]; exact hrg2) hlt hg2 hs2 hen
  obtain ⟨c', ec, hy, _⟩ := plainElem_int_inv Try.underlying3 hv
  simp only [Value.int.injEq, true_and] at ec
  subst ec
  have h2 := hat (.lit (.int .i64 (c + 1)))
  have k1 := at_mapD m ⟨x.toArray⟩ (c + 1)
  rw [hs, h2, hy] at k1
  have k2 := has_mapD m ⟨x.toArray⟩
  rw [hs, Maps.has_true_of_atKey hat] at k2
  cases e : getN m ⟨x.toArray⟩ with
  | none => rw [e] at k2; cases k2
  | some z => rw [e] at k1; simp only [Option.getD_some, DataW.lit.injEq, Lit.int.injEq, true_and] at k1; rw [k1]
def UsedR (B : Nat) (w : World) (L : Lay) (b : Nat) (S : PD) (r : Nat) (acc : Int) (wr : World) (left : Lit → Bool) (cnt : Nat) : Prop :=
  wr.ranges Try.prog 9 (plainElem Try.prog 3) L.nb r S.names.length (mapD S.names) left cnt ∧ acc + usedN S (leftN left S.names) = usedD S ∧ 0 ≤ acc ∧ DskL B wr L b S ∧ Below w.heap.size w wr
set_option maxHeartbeats 1000000 in
set_option maxRecDepth 100000 in
theorem used_calls {B b : Nat} {w : World} {L : Lay} {S : PD} (h : DskL B w L b S) (hS : Lim S) :
    Calls Try.prog 19 #[.pointer (some ⟨b, 0, none⟩)] w fun e w' => e = .returned (.int .i64 (usedD S)) ∧ Below w.heap.size w w' := by
  obtain ⟨c0, c1, c2, c3, c4, c5, c6, c7, f⟩ := h.cells
  have HD := Lib.hid h
  have HS := Lib.hid hS
  have HDist := Lib.hid h.names.dist
  clear c0 c1 c3 c4 c5 c6 c7 f hS h
  go_enter Try.func19, Try.ntmps19
  go_wp2_with (first
    | (at_range; refine wpList_range_own _ rfl _ 55 rfl 9 3 law_s Try.underlying55 _ L.nb S.names.length (mapD S.names) rfl HD.out.names ?_; intro w0 hrg0 hg0 hs0)
    | go_in)
  go_frame
  go_loopw [3] (fun v wr => ∃ (left : Lit → Bool) (cnt : Nat) (acc : Int), v = .int .i64 acc ∧ Aside0 (UsedR B w L b S w.heap.size acc wr left cnt))
    (fun _ wr => wr.rangeLeft L.nb w.heap.size)
  case atStart =>
    have hb : Below w.heap.size w w0 := (Below.refl _ _).grown hg0 (Nat.le_refl _) (fun j hj => by cases hj)
    exact ⟨_, _, 0, rfl, ⟨hrg0, by rw [left_start]; unfold usedD; omega, Int.le_refl 0, HD.out.below hb, hb⟩⟩
  case round =>
    obtain ⟨left, cnt, acc, rfl, HR⟩ := hrel
    clear c2
    go_wp2_with (first
      | (at_next; refine wp_next_names _ rfl _ rfl L.nb w.heap.size S.names.length S.names _ _ rfl HR.out.1 ?_ ?_)
      | go_in)
    · intro _ hl0
      have HE := Lib.hid (show acc = usedD S by have := HR.out.2.1; rw [left_end hl0] at this; unfold usedN at this; simpa using this)
      clear hl0
      go_wp2
      go_ret
      exact ⟨by rw [HE.out]; rfl, HR.out.2.2.2.2⟩
    · intro s c w1 cnt1 hlx hsz hget hrg1 hlt hg1 hs1 hen
      have HR1 := Lib.hid hrg1
      have HG := Lib.hid hg1
      have HLT := Lib.hid hlt
      have hb1 : Below w.heap.size w w1 := HR.out.2.2.2.2.grown hg1 HR.out.2.2.2.2.size (fun j hj => by cases hj; exact Nat.le_refl _)
      have hd1 : DskL B w1 L b S := HD.out.same (fun k hk => hb1.block k (HD.out.foot_lt hk).2)
      have HST := Lib.hid (left_step S S.names HDist.out hget hlx)
      obtain ⟨hc0, hc1, p, hp, hF, hff⟩ := hd1.idx HS.out hget
      obtain ⟨g, cap, hv, hpc, hpl⟩ := hd1.ptr hc0 hp
      obtain ⟨d0, d1, d2, d3, d4, d5, d6, d7, f⟩ := hd1.cells
      rw [hv] at d1
      have n1 : w1.cell? ⟨p.1, 1, none⟩ = some (.string (fileOf S c).now) := (blk_cell hF.blk 1).trans rfl
      obtain ⟨x, hx⟩ : ∃ x, (fileOf S c).now = x := ⟨_, rfl⟩
      have hnow : nowOf S c = x := by unfold nowOf; rw [hff]; exact hx
      rw [hx] at n1
      have hbd := usedD_bd HS.out
      have hle := nowOf_le HS.out c
      rw [hnow] at hle
      have hnn := usedN_nonneg S (leftN (fun z => left z && !z.sameKey (.string s.data.toList)) S.names)
      have hac : 0 ≤ acc ∧ acc ≤ 1000000000000 := by have h1 := HR.out.2.1; have h2 := HR.out.2.2.1; have h3 := HST.out; omega
      obtain ⟨ha0, ha1⟩ := hac
      have HX := Lib.hid hnow
      have HB1 := Lib.hid hb1
      have HD1 := Lib.hid hd1
      clear hlx hsz hget hrg1 hlt hg1 hs1 hd1 hb1 hp hF hff hv d0 d2 d3 d4 d5 d6 d7 f hbd hnn hnow hx
      go_wp2
      go_roundw
      case rel =>
        refine ⟨_, cnt1, acc + (x.size : Int), rfl, ⟨HR1.out, ?_, by omega, HD1.out, HB1.out⟩⟩
        have h1 := HR.out.2.1
        have h3 := HST.out
        rw [HX.out] at h3
        omega
      case measure => rw [HR1.out.left_eq, HR.out.1.left_eq]; exact HLT.out
end Go.Proofs.Ytolbicncdookmaa.XDsk
