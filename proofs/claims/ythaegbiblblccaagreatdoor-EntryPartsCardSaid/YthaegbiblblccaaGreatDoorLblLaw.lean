/- The plain law of labels: what is wrong, in order by name, as bytes. Conditions: those that each theorem names. -/
import Derived.Test.YthaegbiblblccaaGreatDoorNumLib
import Derived.Test.YthaegbiblblccaaGreatDoorGLabelName
import Derived.Test.YthaegbiblblccaaGreatDoorGLabelFind
import Derived.Test.YthaegbiblblccaaGreatDoorGLabelSort
import Derived.Test.YthaegbiblblccaaGreatDoorXEntP1
import Derived.Test.YthaegbiblblccaaGreatDoorXEntP2
namespace Go.Proofs.YthaegbiblblccaaGreatDoor.Lbl
open Go Go.RowKit Go.Proofs.YthaegbiblblccaaGreatDoorW.PrintWords Go.Proofs.YthaegbiblblccaaGreatDoorW.PrintLast Go.Proofs.YthaegbiblblccaaGreatDoorW.PrintMore Go.Proofs.YthaegbiblblccaaGreatDoor.Num Go.Proofs.YthaegbiblblccaaGreatDoor.XEnt
set_option linter.unusedVariables false
set_option linter.unusedSimpArgs false

def nm (p : Q) : List UInt8 := p.f0.toList
theorem ls_toList (s : ByteArray) : ls s = s.toList := by
  have h := bs_toList (ls s)
  rw [bs_ls] at h; exact h.symm
def okP (p : Q) : Prop := nameOk (nm p) = true ∧ p.f1.size ≤ 40
structure Good (l : List Q) : Prop where
  few : l.length ≤ 8
  ok : ∀ p ∈ l, okP p
  once : l.Pairwise (fun a b => nm a ≠ nm b)
def chkGo (pre : List Q) : List Q → Int
  | [] => 0
  | p :: r => if nameOk (nm p) = true then (if p.f1.size > 40 then 7 else if findN pre p.f0 < pre.length then 4 else chkGo (pre ++ [p]) r) else 3
def chk (l : List Q) : Int := if l.length > 8 then 6 else chkGo [] l

theorem find_ex : ∀ (l : List Q) (n : ByteArray), findN l n < l.length ↔ ∃ p ∈ l, nm p = n.toList
  | [], n => by simp [findN]
  | x :: l, n => by
    unfold findN
    by_cases c : x.f0.toList = n.toList
    · rw [if_pos c]; simp only [List.length_cons, Nat.zero_lt_succ, true_iff]; exact ⟨x, List.mem_cons_self, c⟩
    · rw [if_neg c]
      have ih := find_ex l n
      simp only [List.length_cons, Nat.add_lt_add_iff_right, ih, List.mem_cons, exists_eq_or_imp]
      exact ⟨fun h => .inr h, fun h => h.elim (fun e => absurd e c) id⟩
theorem chkGo_zero : ∀ (r pre : List Q), chkGo pre r = 0 ↔ (∀ p ∈ r, okP p) ∧ r.Pairwise (fun a b => nm a ≠ nm b) ∧ ∀ a ∈ pre, ∀ b ∈ r, nm a ≠ nm b
  | [], pre => by simp [chkGo]
  | p :: r, pre => by
    unfold chkGo
    have ih := chkGo_zero r (pre ++ [p])
    by_cases c1 : nameOk (nm p) = true
    · rw [if_pos c1]
      by_cases c2 : p.f1.size > 40
      · rw [if_pos c2]
        constructor
        · intro h; cases h
        · rintro ⟨h, _⟩; exact absurd (h p List.mem_cons_self).2 (by omega)
      · rw [if_neg c2]
        by_cases c3 : findN pre p.f0 < pre.length
        · rw [if_pos c3]
          constructor
          · intro h; cases h
          · rintro ⟨_, _, h⟩
            obtain ⟨q, hq, e⟩ := (find_ex pre p.f0).1 c3
            exact absurd e (h q hq p List.mem_cons_self)
        · rw [if_neg c3, ih]
          have hn : ∀ a ∈ pre, nm a ≠ nm p := fun a ha e => c3 ((find_ex pre p.f0).2 ⟨a, ha, e⟩)
          constructor
          · rintro ⟨h1, h2, h3⟩
            refine ⟨?_, ?_, ?_⟩
            · intro q hq
              rcases List.mem_cons.1 hq with rfl | hq
              · exact ⟨c1, by omega⟩
              · exact h1 q hq
            · exact List.pairwise_cons.2 ⟨fun b hb => h3 p (by simp) b hb, h2⟩
            · intro a ha b hb
              rcases List.mem_cons.1 hb with rfl | hb
              · exact hn a ha
              · exact h3 a (by simp [ha]) b hb
          · rintro ⟨h1, h2, h3⟩
            obtain ⟨h4, h5⟩ := List.pairwise_cons.1 h2
            refine ⟨fun q hq => h1 q (List.mem_cons_of_mem _ hq), h5, ?_⟩
            intro a ha b hb
            rcases List.mem_append.1 ha with ha | ha
            · exact h3 a ha b (List.mem_cons_of_mem _ hb)
            · obtain rfl := List.mem_singleton.1 ha
              exact h4 b hb
    · rw [if_neg c1]
      constructor
      · intro h; cases h
      · rintro ⟨h, _⟩; exact absurd (h p List.mem_cons_self).1 c1
theorem chk_zero (l : List Q) : chk l = 0 ↔ Good l := by
  unfold chk
  by_cases c : l.length > 8
  · rw [if_pos c]
    constructor
    · intro h; cases h
    · intro h; exact absurd h.few (by omega)
  · rw [if_neg c, chkGo_zero]
    constructor
    · rintro ⟨h1, h2, _⟩; exact ⟨by omega, h1, h2⟩
    · intro h; exact ⟨h.ok, h.once, by simp⟩
theorem rd_at (a : List Q) (p : Q) (r : List Q) : rd_T52 (a ++ p :: r) (a.length : Int) = p := by
  unfold rd_T52
  rw [Int.toNat_natCast, List.getD_eq_getElem?_getD, List.getElem?_append_right (Nat.le_refl _), Nat.sub_self]; rfl
theorem check_l0 : ∀ (r pre : List Q) (k : Nat), r.length < k → pre.length + r.length ≤ 8 → label_Check.l0 k (pre ++ r) (pre ++ r) ((pre ++ r).length : Int) (pre.length : Int) = some (chkGo pre r)
  | [], pre, k, hk, h8 => by
    obtain ⟨k, rfl⟩ : ∃ q, k = q + 1 := ⟨k - 1, by omega⟩
    rw [label_Check.l0, if_neg (by simp)]; rfl
  | p :: r, pre, k, hk, h8 => by
    obtain ⟨k, rfl⟩ : ∃ q, k = q + 1 := ⟨k - 1, by omega⟩
    have hlt : (pre.length : Int) < ((pre ++ p :: r).length : Int) := by rw [List.length_append, List.length_cons]; omega
    have ih := check_l0 r (pre ++ [p]) k (by simp only [List.length_cons] at hk; omega) (by simp only [List.length_append, List.length_cons, List.length_nil] at h8 ⊢; omega)
    rw [label_Check.l0, if_pos hlt, if_pos (by omega), if_pos hlt, rd_at]
    unfold label_Name.f
    rw [bsome, ls_toList]
    unfold chkGo
    by_cases c1 : nameOk (nm p) = true
    · rw [if_pos c1, if_pos (by exact c1)]
      by_cases c2 : p.f1.size > 40
      · rw [if_pos c2, if_pos (by omega)]
      · rw [if_neg c2, if_neg (by omega), if_pos (by omega)]
        have ht : (pre ++ p :: r).take ((pre.length : Nat) : Int).toNat = pre := by rw [Int.toNat_natCast, List.take_left']; rfl
        rw [ht]
        unfold label_find.f
        rw [bsome]
        by_cases c3 : findN pre p.f0 < pre.length
        · rw [if_pos c3, findI_pos c3, if_pos (by omega)]
        · rw [if_neg c3, findI_neg c3, if_neg (by omega)]
          have e : wrap64 ((pre.length : Int) + 1) = ((pre ++ [p]).length : Int) := by rw [w64_id (by omega) (by simp only [List.length_cons] at h8; omega)]; simp
          rw [e]
          rw [List.append_assoc, List.singleton_append] at ih
          exact ih
    · rw [if_neg c1, if_neg (by exact c1)]
theorem check_f (l : List Q) {k : Nat} (hk : 10 ≤ k) : label_Check.f k l = some (chk l) := by
  unfold label_Check.f chk
  by_cases c : l.length > 8
  · rw [if_pos c, if_pos (by omega)]
  · rw [if_neg c, if_neg (by omega)]
    exact check_l0 l [] k (by omega) (by simp; omega)
theorem check_mono {k k' : Nat} (h : k ≤ k') {l : List Q} {r : Int} (hf : label_Check.f k l = some r) : label_Check.f k' l = some r := by
  induction h with
  | refl => exact hf
  | step _ ih => exact label_Check.mono _ _ _ ih
theorem check_eq {k : Nat} {l : List Q} {r : Int} (hf : label_Check.f k l = some r) : r = chk l := by
  have h := check_mono (Nat.le_max_left k 10) hf
  rw [check_f l (Nat.le_max_right k 10)] at h
  exact (Option.some.inj h).symm

/-! ### in order, as bytes -/
def lbody (l : List Q) : List UInt8 := l.flatMap fun p => encT (ls p.f0) ++ encT (ls p.f1)
def lbytes (l : List Q) : List UInt8 := enc l.length ++ lbody (sortL l)
def putL (l : List Q) : ByteArray × Int := if chk l = 0 then (bs (lbytes l), 0) else (bs [], chk l)
theorem encT_len {t : List UInt8} (h : t.length ≤ 40) : (encT t).length ≤ 50 := by
  have := enc_len10 (n := t.length) (by omega)
  unfold encT; rw [List.length_append]; omega
theorem nameOk_len {l : List UInt8} (h : nameOk l = true) : l.length ≤ 20 := by
  unfold nameOk at h
  simp only [Bool.and_eq_true, decide_eq_true_eq] at h
  exact h.1.1
theorem ok_name {p : Q} (h : okP p) : (ls p.f0).length ≤ 40 := by rw [ls_toList]; have := nameOk_len h.1; unfold nm at this; omega
theorem size_ls (s : ByteArray) : (ls s).length = s.size := (bs_size (ls s)).symm.trans (by rw [bs_ls])
theorem ok_value {p : Q} (h : okP p) : (ls p.f1).length ≤ 40 := by rw [size_ls]; exact h.2
theorem body_len : ∀ (l : List Q), (∀ p ∈ l, okP p) → (lbody l).length ≤ l.length * 100
  | [], _ => by simp [lbody]
  | p :: l, h => by
    have ih := body_len l (fun q hq => h q (List.mem_cons_of_mem _ hq))
    have h0 := h p List.mem_cons_self
    have h1 := encT_len (ok_name h0)
    have h2 := encT_len (ok_value h0)
    unfold lbody at ih ⊢
    rw [List.flatMap_cons, List.length_append, List.length_append, List.length_cons]
    omega
theorem good_sort {l : List Q} (h : Good l) : Good (sortL l) := by
  have hp := (sortL_holds l).1
  exact ⟨by rw [hp.length_eq]; exact h.few, fun p hm => h.ok p (hp.mem_iff.1 hm), (hp.pairwise_iff (fun {a b} hab e => hab e.symm)).2 h.once⟩
end Go.Proofs.YthaegbiblblccaaGreatDoor.Lbl
