/- LabelErrs: what is wrong with one pair of right labels is told; nine are too many. Conditions: the law's own. -/
import Derived.Test.YtkgelkdaodcjcaaDoorLblGlue2
import Derived.Test.YtkgelkdaodcjcaaDoorXLblx0
import Derived.Test.YtkgelkdaodcjcaaDoorXLblx4
import Derived.Test.YtkgelkdaodcjcaaDoorXLblx27
namespace Go.Proofs.YtkgelkdaodcjcaaDoor
open Go.RowKit Go.Proofs.YtkgelkdaodcjcaaDoorW.PrintWords Go.Proofs.YtkgelkdaodcjcaaDoorW.PrintMore Go.Proofs.YtkgelkdaodcjcaaDoor.XLbl Go.Proofs.YtkgelkdaodcjcaaDoor.Num Go.Proofs.YtkgelkdaodcjcaaDoor.Lbl
set_option linter.unusedVariables false
set_option linter.unusedSimpArgs false
theorem chkGo_app : ∀ (a pre r : List Q), (∀ p ∈ a, okP p) → a.Pairwise (fun x y => nm x ≠ nm y) → (∀ x ∈ pre, ∀ y ∈ a, nm x ≠ nm y) → chkGo pre (a ++ r) = chkGo (pre ++ a) r
  | [], pre, r, _, _, _ => by rw [List.append_nil]; rfl
  | p :: a, pre, r, h1, h2, h3 => by
    have hp := h1 p List.mem_cons_self
    have h4 := List.pairwise_cons.1 h2
    have ih := chkGo_app a (pre ++ [p]) r (fun q hq => h1 q (List.mem_cons_of_mem _ hq)) h4.2 (by
      intro x hx y hy
      rcases List.mem_append.1 hx with hx | hx
      · exact h3 x hx y (List.mem_cons_of_mem _ hy)
      · obtain rfl := List.mem_singleton.1 hx
        exact h4.1 y hy)
    rw [List.cons_append, chkGo, if_pos hp.1, if_neg (by have := hp.2; omega), if_neg, ih, List.append_assoc]
    · rfl
    · intro h5
      obtain ⟨q, hq, e⟩ := (find_ex pre p.f0).1 h5
      exact h3 q hq p List.mem_cons_self e
theorem set_split (l : List Q) (k : Nat) (h : k < l.length) (p : Q) : l.set k p = l.take k ++ p :: l.drop (k + 1) := by
  rw [List.set_eq_take_append_cons_drop, if_pos h]
theorem front_ok {l : List Q} (h : Lbl.Good l) (k : Nat) : (∀ p ∈ l.take k, okP p) ∧ (l.take k).Pairwise (fun x y => nm x ≠ nm y) :=
  ⟨fun p hp => h.ok p (List.mem_of_mem_take hp), h.once.sublist (List.take_sublist _ _)⟩
theorem chk_name {l : List Q} (h : Lbl.Good l) {k : Nat} (hk : k < l.length) {p : Q} (hp : nameOk (nm p) = false) : chk (l.set k p) = 3 := by
  unfold chk
  rw [if_neg (by rw [List.length_set]; have := h.few; omega), set_split l k hk, chkGo_app _ _ _ (front_ok h k).1 (front_ok h k).2 (by simp), chkGo, if_neg (by rw [hp]; decide)]
theorem chk_value {l : List Q} (h : Lbl.Good l) {k : Nat} (hk : k < l.length) {p : Q} (hp : nameOk (nm p) = true) (hv : p.f1.size > 40) : chk (l.set k p) = 7 := by
  unfold chk
  rw [if_neg (by rw [List.length_set]; have := h.few; omega), set_split l k hk, chkGo_app _ _ _ (front_ok h k).1 (front_ok h k).2 (by simp), chkGo, if_pos hp, if_pos hv]
def tw : List UInt8 := [116, 119, 105, 99, 101]
theorem tw_new : ∀ n ∈ names8, n ≠ tw := by decide
theorem chk_twice {l : List Q} (h : Made l 8) {k : Nat} (hk : k < l.length) {p q : Q} (hp : nm p = tw) (hq : nm q = tw) (h1 : p.f1.size ≤ 40) (h2 : q.f1.size ≤ 40) (h8 : l.length + 1 ≤ 8) : chk (l.set k p ++ [q]) = 4 := by
  have hg := h.good
  have hn : ∀ x ∈ l, nm x ≠ tw := fun x hx => tw_new _ (h.names x hx)
  have hok : nameOk tw = true := by decide
  have hmem : ∀ x ∈ l.set k p, x ∈ l ∨ x = p := fun x hx => List.mem_or_eq_of_mem_set hx
  have hall : (∀ x ∈ l.set k p, okP x) := fun x hx => by
    rcases hmem x hx with hx | rfl
    · exact hg.ok x hx
    · exact ⟨by rw [hp]; exact hok, h1⟩
  have honce : (l.set k p).Pairwise (fun x y => nm x ≠ nm y) := by
    have ho := h.once
    rw [List.pairwise_iff_getElem] at ho ⊢
    intro i j hi hj hij
    rw [List.length_set] at hi hj
    rw [List.getElem_set, List.getElem_set]
    split
    · split
      · omega
      · intro e; rw [hp] at e; exact hn _ (List.getElem_mem _) e.symm
    · split
      · intro e; rw [hp] at e; exact hn _ (List.getElem_mem _) e
      · exact ho i j hi hj hij
  unfold chk
  rw [if_neg (by rw [List.length_append, List.length_set]; simp; omega), chkGo_app _ _ _ hall honce (by simp), List.nil_append, chkGo, if_pos (by rw [hq]; exact hok), if_neg (by omega), if_pos]
  refine (find_ex _ _).2 ⟨p, ?_, hp.trans hq.symm⟩
  rw [set_split l k hk]; simp
theorem chk_many {l : List Q} (h : l.length > 8) : chk l = 6 := by unfold chk; rw [if_pos h]
theorem errs_j2 (l : List Q) (x : Int) (h : chk l = x ∨ l.length > 8) (hx : x ≠ 0) {k : Nat} (hk : 20 ≤ k) : postroomlaw3_LabelErrs.j2 (k + 1) l x = some true := by
  have key : ∀ y, chk l = y → y ≠ 0 → label_Put.f k l = some (bs [], y) ∧ label_Canon.f k l = some ([], y) ∧ label_Check.f k l = some y := fun y e hy => by
    refine ⟨?_, ?_, ?_⟩
    · rw [lput_f l (by omega)]; unfold putL; rw [e, if_neg hy]
    · rw [canon_f l (by omega), e, if_neg hy]
    · rw [check_f l (by omega), e]
  rw [postroomlaw3_LabelErrs.j2]
  by_cases c : l.length > 8
  · obtain ⟨k1, k2, k3⟩ := key 6 (chk_many c) (by decide)
    rw [if_pos (by omega), k1, bsome, k2, bsome, k3, bsome, if_pos rfl, if_pos rfl, if_pos rfl, bs_toList, if_pos rfl]; rfl
  · obtain ⟨k1, k2, k3⟩ := key x (h.resolve_right c) hx
    rw [if_neg (by omega), k1, bsome, k2, bsome, k3, bsome, if_pos rfl, if_pos rfl, if_pos rfl, bs_toList, if_pos rfl]; rfl
theorem errs_l0 : ∀ (d k : Nat) (l : List Q), l.length + d = 9 → d + 30 ≤ k → postroomlaw3_LabelErrs.l0 k l = some true
  | 0, k, l, h, hk => by
    obtain ⟨k, rfl⟩ : ∃ q, k = q + 2 := ⟨k - 2, by omega⟩
    rw [postroomlaw3_LabelErrs.l0, if_neg (by omega)]
    exact errs_j2 l 6 (.inr (by omega)) (by decide) (by omega)
  | d + 1, k, l, h, hk => by
    obtain ⟨k, rfl⟩ : ∃ q, k = q + 1 := ⟨k - 1, by omega⟩
    rw [postroomlaw3_LabelErrs.l0, if_pos (by omega), if_pos (by omega)]
    exact errs_l0 d k _ (by rw [List.length_append, List.length_singleton]; omega) (by omega)
def badN : List (List UInt8) := [[], [49, 97], [65], [97, 32, 98], [97, 97, 97, 97, 97, 97, 97, 97, 97, 97, 97, 97, 97, 97, 97, 97, 97, 97, 97, 97, 97]]
theorem badN_no : ∀ n ∈ badN, nameOk n = false := by decide
theorem badN_at (j : Nat) (h : j < 5) : nameOk (rdOf ByteArray.empty (badN.map bs) (j : Int)).toList = false := by
  have h1 : rdOf ByteArray.empty (badN.map bs) (j : Int) = bs (badN[j]'h) := by
    unfold rdOf
    rw [Int.toNat_natCast, List.getD_eq_getElem?_getD, List.getElem?_map, List.getElem?_eq_getElem h]; rfl
  rw [h1, bs_toList]
  exact badN_no _ (List.getElem_mem _)
theorem Pure.LabelErrs : postroomlaw3_LabelErrs.Pure := by
  intro n a b hn1 hn2 hn ha hb
  have ha := wf_i64 ha
  have hb := wf_i64 hb
  refine ⟨500, ?_⟩
  obtain ⟨l, hl, hM⟩ := labels_f hn (k := 500) (by omega)
  have hg := hM.good
  have h8 := hg.few
  unfold postroomlaw3_LabelErrs.f
  rw [shown_f (by omega), bsome, hl, bsome, if_pos rfl]
  by_cases c : l.length = 0
  · rw [show ((l.length : Int) == 0) = true by simp [c]]
    rw [show (500 : Nat) = 499 + 1 from rfl, postroomlaw3_LabelErrs.j0, if_pos rfl]
  · rw [beq_eq_false_iff_ne.2 (by omega)]
    have hp := pick_f ha (n := l.length) (by omega)
    have hk := pickN_lt a (n := l.length) (by omega)
    have h4 := pick_f hb (n := 4) (by decide)
    rw [show ((4 : Nat) : Int) = 4 from rfl] at h4
    have h4l := pickN_lt b (n := 4) (by decide)
    generalize pickN a l.length = i at hp hk
    generalize pickN b 4 = q at h4 h4l
    rw [show (500 : Nat) = 499 + 1 from rfl, postroomlaw3_LabelErrs.j0, if_neg (by decide), hp, bsome, h4, bsome]
    by_cases c0 : q = 0
    · have hm : -9223372036854775808 ≤ wrap64 (Int.tdiv b 4) ∧ wrap64 (Int.tdiv b 4) < 9223372036854775808 := by unfold wrap64; omega
      have h5 := pick_f hm (n := 5) (by decide)
      rw [show ((5 : Nat) : Int) = 5 from rfl] at h5
      have h5l := pickN_lt (wrap64 (Int.tdiv b 4)) (n := 5) (by decide)
      generalize pickN (wrap64 (Int.tdiv b 4)) 5 = j at h5 h5l
      rw [if_pos (by omega), bsome, h5, bsome, if_pos (by omega), if_pos (by simp only [List.length_cons, List.length_nil]; omega), if_pos (by omega), if_pos (by omega), Int.toNat_natCast]
      exact errs_j2 (k := 498) (l.set i ⟨rdOf ByteArray.empty (badN.map bs) (j : Int), (rd_T30 l (i : Int)).f1⟩) 3 (.inl (chk_name (p := ⟨rdOf ByteArray.empty (badN.map bs) (j : Int), (rd_T30 l (i : Int)).f1⟩) hg hk (badN_at j h5l))) (by decide) (by omega)
    · rw [if_neg (by omega)]
      by_cases c1 : q = 1
      · rw [if_pos (by omega), if_pos (by omega), if_pos (by omega), rd_q l i hk, Int.toNat_natCast]
        have hv := chk_value (p := ⟨l[i].f0, ⟨#[48, 49, 50, 51, 52, 53, 54, 55, 56, 57, 48, 49, 50, 51, 52, 53, 54, 55, 56, 57, 48, 49, 50, 51, 52, 53, 54, 55, 56, 57, 48, 49, 50, 51, 52, 53, 54, 55, 56, 57, 33]⟩⟩) hg hk (hg.ok _ (List.getElem_mem hk)).1 (show (ByteArray.mk #[48, 49, 50, 51, 52, 53, 54, 55, 56, 57, 48, 49, 50, 51, 52, 53, 54, 55, 56, 57, 48, 49, 50, 51, 52, 53, 54, 55, 56, 57, 48, 49, 50, 51, 52, 53, 54, 55, 56, 57, 33]).size > 40 by decide)
        exact errs_j2 (k := 498) _ 7 (.inl hv) (by decide) (by omega)
      · rw [if_neg (by omega)]
        by_cases c2 : q = 2
        · rw [if_pos (by omega), if_pos (by omega), if_pos (by omega), bsome, rd_q l i hk, Int.toNat_natCast, if_pos (by rw [List.length_set]; omega)]
          refine errs_j2 (k := 498) _ 4 ?_ (by decide) (by omega)
          by_cases c3 : l.length + 1 ≤ 8
          · exact .inl (chk_twice hM hk (nm_mk tw _) (nm_mk tw []) (by have := (hg.ok _ (List.getElem_mem hk)).2; exact this) (by decide) c3)
          · exact .inr (by rw [List.length_append, List.length_set, List.length_singleton]; omega)
        · rw [if_neg (by omega)]
          exact errs_l0 (9 - l.length) _ l (by omega) (by omega)
end Go.Proofs.YtkgelkdaodcjcaaDoor
