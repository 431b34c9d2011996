/- The plain law of labels: one order, one form, taken as put. Conditions: those that each theorem names. -/
import Derived.Test.YthaegbiblblccaaGreatDoorLblLaw
import Derived.Test.YthaegbiblblccaaGreatDoorOwnA
namespace Go.Proofs.YthaegbiblblccaaGreatDoor.Lbl
open Go Go.RowKit Go.Proofs.YthaegbiblblccaaGreatDoorW.PrintWords Go.Proofs.YthaegbiblblccaaGreatDoorW.PrintLast Go.Proofs.YthaegbiblblccaaGreatDoorW.PrintMore Go.Proofs.YthaegbiblblccaaGreatDoor.Num Go.Proofs.YthaegbiblblccaaGreatDoor.XEnt
set_option linter.unusedVariables false
set_option linter.unusedSimpArgs false

theorem less_iff (a b : List UInt8) : Op.bytesLess a b = true ↔ a < b := by rw [bytesLess_eq, decide_eq_true_eq]
theorem less_false (a b : List UInt8) : Op.bytesLess a b = false ↔ ¬ a < b := by rw [bytesLess_eq, decide_eq_false_iff_not]
def Strict (l : List Q) : Prop := l.Pairwise (fun a b => nm a < nm b)
theorem lt_of_not {a b : List UInt8} (h : ¬ b < a) (hne : a ≠ b) : a < b :=
  Decidable.byContradiction fun h2 => hne (List.le_antisymm (List.not_lt.mp h) (List.not_lt.mp h2))
theorem ne_of_lt {a b : List UInt8} (h : a < b) : a ≠ b := fun e => List.lt_irrefl _ (e ▸ h)
theorem strict_once {l : List Q} (h : Strict l) : l.Pairwise (fun a b => nm a ≠ nm b) := h.imp (fun hab => ne_of_lt hab)
theorem sorted_strict {l : List Q} (h : l.Pairwise (fun a b => nm a ≠ nm b)) : Strict (sortL l) := by
  obtain ⟨hp, hs⟩ := sortL_holds l
  have h2 : (sortL l).Pairwise (fun a b => nm a ≠ nm b) := (hp.pairwise_iff (fun {a b} hab e => hab e.symm)).2 h
  exact List.Pairwise.imp₂ (fun a b h1 h2 => lt_of_not ((less_false _ _).1 h1) h2) hs h2
theorem strict_unique : ∀ {l l' : List Q}, l.Perm l' → Strict l → Strict l' → l = l'
  | [], l', hp, _, _ => (List.nil_perm.1 hp).symm
  | x :: l, [], hp, _, _ => by have := hp.length_eq; simp at this
  | x :: l, y :: l', hp, h1, h2 => by
    obtain ⟨a1, b1⟩ := List.pairwise_cons.1 h1
    obtain ⟨a2, b2⟩ := List.pairwise_cons.1 h2
    have hx : x ∈ y :: l' := hp.mem_iff.1 List.mem_cons_self
    have hy : y ∈ x :: l := hp.mem_iff.2 List.mem_cons_self
    have e : x = y := by
      rcases List.mem_cons.1 hx with e | hx
      · exact e
      · rcases List.mem_cons.1 hy with e | hy
        · exact e.symm
        · exact absurd (List.lt_trans (a2 x hx) (a1 y hy)) (List.lt_irrefl _)
    subst e
    rw [strict_unique (List.Perm.cons_inv hp) b1 b2]
theorem sortL_of {l m : List Q} (hp : m.Perm l) (hs : Strict m) : sortL l = m := by
  have ho := strict_once hs
  have ho' : l.Pairwise (fun a b => nm a ≠ nm b) := (hp.pairwise_iff (fun {a b} hab e => hab e.symm)).1 ho
  exact strict_unique ((sortL_holds l).1.trans hp.symm) (sorted_strict ho') hs
theorem sortL_id {l : List Q} (h : Strict l) : sortL l = l := sortL_of (List.Perm.refl _) h
/-! ### bytes and back -/
structure Small (p : Q) : Prop where
  name : (ls p.f0).length ≤ 20
  value : (ls p.f1).length ≤ 40
def txt (s : List UInt8) (m : Nat) : Option (ByteArray × List UInt8) := match dec 0 s with
  | some (n, r) => if n > m then none else if n > r.length then none else some (bs (r.take n), r.drop n)
  | none => none
theorem takeTP_txt (s : List UInt8) (m : Nat) : (∃ a r, txt s m = some (a, r) ∧ takeTP s (m : Int) = (a, bs r, 0)) ∨ (txt s m = none ∧ ∃ e : Int, e ≠ 0 ∧ takeTP s (m : Int) = (bs [], bs [], e)) := by
  unfold takeTP txt
  cases e : dec 0 s with
  | none => exact .inr ⟨rfl, 2, by decide, rfl⟩
  | some nr =>
    obtain ⟨n, r⟩ := nr
    simp only []
    have hm : mx (m : Int) 0 = (m : Int) := by unfold mx; split <;> omega
    rw [hm]
    by_cases c1 : n > m
    · rw [if_pos c1, if_pos (by omega)]; exact .inr ⟨rfl, 7, by decide, rfl⟩
    · have c3 : ¬ ((n : Int) > (m : Int)) := by omega
      rw [if_neg c1, if_neg c3]
      by_cases c2 : n > r.length
      · rw [if_pos c2, if_pos c2]; exact .inr ⟨rfl, 2, by decide, rfl⟩
      · rw [if_neg c2, if_neg c2]; exact .inl ⟨_, _, rfl, rfl⟩
theorem txt_some {s : List UInt8} {m : Nat} {a : ByteArray} {r : List UInt8} (h : txt s m = some (a, r)) : s = encT (ls a) ++ r ∧ (ls a).length ≤ m := by
  unfold txt at h
  cases e : dec 0 s with
  | none => rw [e] at h; cases h
  | some nr =>
    obtain ⟨n, q⟩ := nr
    rw [e] at h
    simp only [] at h
    by_cases c1 : n > m
    · rw [if_pos c1] at h; cases h
    · rw [if_neg c1] at h
      by_cases c2 : n > q.length
      · rw [if_pos c2] at h; cases h
      · rw [if_neg c2] at h
        obtain ⟨rfl, rfl⟩ := Prod.mk.inj (Option.some.inj h)
        obtain ⟨e1, e2⟩ := dec_some e
        have hl : (q.take n).length = n := by rw [List.length_take]; omega
        rw [ls_bs]
        refine ⟨?_, by omega⟩
        unfold encT; rw [hl, e1, List.append_assoc, List.take_append_drop]
def takeOne (s : List UInt8) : Option (Q × List UInt8) := (txt s 20).bind fun ar => (txt ar.2 40).bind fun br => some (⟨ar.1, br.1⟩, br.2)
theorem takeOne_some {s : List UInt8} {p : Q} {r : List UInt8} (h : takeOne s = some (p, r)) : s = encT (ls p.f0) ++ encT (ls p.f1) ++ r ∧ Small p := by
  unfold takeOne at h
  obtain ⟨⟨a, q⟩, h1, h⟩ := Option.bind_eq_some_iff.mp h
  obtain ⟨⟨b, q2⟩, h2, h⟩ := Option.bind_eq_some_iff.mp h
  obtain ⟨rfl, rfl⟩ := Prod.mk.inj (Option.some.inj h)
  obtain ⟨e1, l1⟩ := txt_some h1
  obtain ⟨e2, l2⟩ := txt_some h2
  exact ⟨by rw [e1, show q = encT (ls b) ++ q2 from e2]; simp only [List.append_assoc], ⟨l1, l2⟩⟩
def takeN : Nat → List UInt8 → Option (List Q × List UInt8)
  | 0, s => some ([], s)
  | n + 1, s => (takeOne s).bind fun pr => (takeN n pr.2).bind fun lq => some (pr.1 :: lq.1, lq.2)
theorem lbody_cons (p : Q) (l : List Q) : lbody (p :: l) = encT (ls p.f0) ++ encT (ls p.f1) ++ lbody l := by simp [lbody]
theorem takeN_some : ∀ (n : Nat) (s : List UInt8) {l : List Q} {r : List UInt8}, takeN n s = some (l, r) → s = lbody l ++ r ∧ l.length = n ∧ ∀ p ∈ l, Small p
  | 0, s, l, r, h => by
    obtain ⟨rfl, rfl⟩ := Prod.mk.inj (Option.some.inj h)
    exact ⟨rfl, rfl, by simp⟩
  | n + 1, s, l, r, h => by
    rw [takeN] at h
    obtain ⟨⟨p, q⟩, h1, h⟩ := Option.bind_eq_some_iff.mp h
    obtain ⟨⟨m, q2⟩, h2, h⟩ := Option.bind_eq_some_iff.mp h
    obtain ⟨rfl, rfl⟩ := Prod.mk.inj (Option.some.inj h)
    obtain ⟨e1, s1⟩ := takeOne_some h1
    obtain ⟨e2, s2, s3⟩ := takeN_some n q h2
    refine ⟨by rw [e1, e2, lbody_cons]; simp only [List.append_assoc], by rw [List.length_cons, s2], ?_⟩
    intro x hx
    rcases List.mem_cons.1 hx with rfl | hx
    · exact s1
    · exact s3 x hx
theorem sort_len (l : List Q) : (sortL l).length = l.length := (sortL_holds l).1.length_eq
theorem lbytes_eq (l : List Q) : lbytes l = enc (sortL l).length ++ lbody (sortL l) := by unfold lbytes; rw [sort_len]
/-! ### what a taking tells -/
def ascG : Option Q → List Q → Bool
  | _, [] => true
  | none, p :: l => ascG (some p) l
  | some q, p :: l => Op.bytesLess (nm q) (nm p) && ascG (some p) l
theorem ascG_some : ∀ (l : List Q) (q : Q), ascG (some q) l = true ↔ Strict (q :: l)
  | [], q => by simp [ascG, Strict]
  | p :: l, q => by
    rw [ascG, Bool.and_eq_true, less_iff, ascG_some l p]
    unfold Strict
    constructor
    · rintro ⟨h1, h2⟩
      refine List.pairwise_cons.2 ⟨?_, h2⟩
      intro x hx
      rcases List.mem_cons.1 hx with rfl | hx
      · exact h1
      · exact List.lt_trans h1 ((List.pairwise_cons.1 h2).1 x hx)
    · intro h
      obtain ⟨h1, h2⟩ := List.pairwise_cons.1 h
      exact ⟨h1 p List.mem_cons_self, h2⟩
theorem ascG_none (l : List Q) : ascG none l = true ↔ Strict l := by
  cases l with
  | nil => simp [ascG, Strict]
  | cons p l => rw [ascG]; exact ascG_some l p
abbrev bad : List Q × ByteArray × Int := ([], bs [], 2)
def takeL (s : List UInt8) : List Q × ByteArray × Int := match dec 0 s with
  | some (n, r) => if n > 8 then bad else match takeN n r with
    | some (l, q) => if ascG none l = true then (if chk l = 0 then (l, bs q, 0) else bad) else bad
    | none => bad
  | none => bad
theorem takeL_ok {s : List UInt8} (h : (takeL s).2.2 = 0) : ∃ l q, takeL s = (l, bs q, 0) ∧ Good l ∧ sortL l = l ∧ s = lbytes l ++ q := by
  unfold takeL at h ⊢
  cases e : dec 0 s with
  | none => rw [e] at h; cases h
  | some nr =>
    obtain ⟨n, r⟩ := nr
    rw [e] at h
    simp only [] at h ⊢
    by_cases c1 : n > 8
    · rw [if_pos c1] at h; cases h
    · rw [if_neg c1] at h ⊢
      cases e2 : takeN n r with
      | none => rw [e2] at h; cases h
      | some lq =>
        obtain ⟨l, q⟩ := lq
        rw [e2] at h
        simp only [] at h ⊢
        by_cases c2 : ascG none l = true
        · rw [if_pos c2] at h ⊢
          by_cases c3 : chk l = 0
          · rw [if_pos c3]
            obtain ⟨e3, e4, _⟩ := takeN_some n r e2
            obtain ⟨e5, _⟩ := dec_some e
            have hs := sortL_id ((ascG_none l).1 c2)
            refine ⟨l, q, rfl, (chk_zero l).1 c3, hs, ?_⟩
            rw [lbytes_eq, hs, e4, e5, e3, List.append_assoc]
          · rw [if_neg c3] at h; cases h
        · rw [if_neg c2] at h; cases h
end Go.Proofs.YthaegbiblblccaaGreatDoor.Lbl
