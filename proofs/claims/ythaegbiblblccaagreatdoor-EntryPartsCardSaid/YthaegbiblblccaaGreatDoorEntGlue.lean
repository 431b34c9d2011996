/- Chapter 5: an entry's bytes are those of its labels and those of its samples; what the printed functions answer. Conditions: those that each theorem names. -/
import Derived.Test.YthaegbiblblccaaGreatDoorLblGlue2
import Derived.Test.YthaegbiblblccaaGreatDoorSmpGlue
import Derived.Test.YthaegbiblblccaaGreatDoorSmpGlue0
import Derived.Test.YthaegbiblblccaaGreatDoorGEntryTake
import Derived.Test.YthaegbiblblccaaGreatDoorXEntP1
import Derived.Test.YthaegbiblblccaaGreatDoorXEntP2
import Derived.Test.YthaegbiblblccaaGreatDoorXEntP3
namespace Go.Proofs.YthaegbiblblccaaGreatDoor.Ent
open Go.RowKit Go.Proofs.YthaegbiblblccaaGreatDoorW.PrintWords Go.Proofs.YthaegbiblblccaaGreatDoorW.PrintLast Go.Proofs.YthaegbiblblccaaGreatDoorW.PrintMore Go.Proofs.YthaegbiblblccaaGreatDoor.Num Go.Proofs.YthaegbiblblccaaGreatDoor.XEnt
set_option linter.unusedVariables false
set_option linter.unusedSimpArgs false
abbrev Sm := S54
def chkE (l : List S52) (m : List Sm) : Int := if Lbl.chk l = 0 then Smp.chk m else Lbl.chk l
theorem chkE_zero {l : List S52} {m : List Sm} : chkE l m = 0 ↔ Lbl.Good l ∧ Smp.chk m = 0 := by
  unfold chkE
  rw [← Lbl.chk_zero]
  by_cases c : Lbl.chk l = 0
  · rw [if_pos c]; exact ⟨fun h => ⟨c, h⟩, fun h => h.2⟩
  · rw [if_neg c]; exact ⟨fun h => absurd h c, fun h => h.1⟩
theorem echeck_f (l : List S52) (m : List Sm) {k : Nat} (hk : 1003 ≤ k) : entry_Check.f k l m = some (chkE l m) := by
  unfold entry_Check.f chkE
  rw [Lbl.check_f l (by omega), bsome]
  by_cases c : Lbl.chk l = 0
  · rw [if_pos c, if_pos c, Smp.check_f m k hk, bsome]
  · rw [if_neg c, if_neg c]
def bytesE (l : List S52) (m : List Sm) : List UInt8 := Lbl.lbytes l ++ Smp.bytes m
theorem lbytes_len {l : List S52} (h : Lbl.Good l) : (Lbl.lbytes l).length ≤ 810 := by
  have h1 := h.few
  have h2 := Lbl.body_len (sortL l) (Lbl.good_sort h).ok
  have h3 := enc_len10 (n := l.length) (by omega)
  have h4 := Lbl.sort_len l
  unfold Lbl.lbytes
  rw [List.length_append]; omega
theorem eput_f (l : List S52) (m : List Sm) (hw : ∀ x ∈ m, Smp.WF x) {k : Nat} (hk : 1003 ≤ k) : entry_Put.f k l m = some (if chkE l m = 0 then (bs (bytesE l m), 0) else (bs [], chkE l m)) := by
  unfold entry_Put.f
  rw [echeck_f l m hk, bsome]
  by_cases c : chkE l m = 0
  · obtain ⟨hg, hc⟩ := chkE_zero.1 c
    have h1 := lbytes_len hg
    have h2 := Smp.bytes_len hc hw
    rw [if_pos c, if_pos c, Lbl.put_goodf hg (by omega), bsome, Smp.put_ok hw hc, bsome, if_pos (by simp only [bs_size]; omega)]
    simp only [bs_app]
    rfl
  · rw [if_neg c, if_neg c]; rfl
theorem eput_ok {l : List S52} {m : List Sm} (hg : Lbl.Good l) (hc : Smp.chk m = 0) (hw : ∀ x ∈ m, Smp.WF x) {k : Nat} (hk : 1003 ≤ k) : entry_Put.f k l m = some (bs (bytesE l m), 0) := by
  rw [eput_f l m hw hk, if_pos (chkE_zero.2 ⟨hg, hc⟩)]
abbrev badE : List S52 × List Sm × Int := ([], [], 2)
def finE (t : List S52 × ByteArray × Int) (u : List Sm × ByteArray × Int) : List S52 × List Sm × Int :=
  if t.2.2 = 0 then (if u.2.2 = 0 then (if u.2.1.toList = [] then (t.1, u.1, 0) else badE) else badE) else badE
theorem finE_no1 {t : List S52 × ByteArray × Int} (h : t.2.2 ≠ 0) (u : List Sm × ByteArray × Int) : finE t u = badE := by unfold finE; rw [if_neg h]
def takeE (s : List UInt8) : List S52 × List Sm × Int := finE (Lbl.takeL s) (Smp.takeS (ls (Lbl.takeL s).2.1))
theorem rest_le {s : List UInt8} (h : (Lbl.takeL s).2.2 = 0) : (Lbl.takeL s).2.1.size ≤ s.length := by
  obtain ⟨l, q, h1, _, _, h4⟩ := Lbl.takeL_ok h
  rw [h1, h4, List.length_append]
  show (bs q).size ≤ _
  rw [bs_size]; omega
theorem etake_f {s : List UInt8} (hs : s.length ≤ 140737488351232) {k : Nat} (hk : 70 ≤ k) : entry_Take.f k (bs s) = some (takeE s) := by
  unfold entry_Take.f takeE finE
  rw [Lbl.ltake_f hs hk, bsome]
  by_cases c : (Lbl.takeL s).2.2 = 0
  · have h1 := rest_le c
    rw [if_pos c, if_pos c]
    have h2 : sample_Take.f (Lbl.takeL s).2.1 = some (Smp.takeS (ls (Lbl.takeL s).2.1)) := by unfold sample_Take.f; rw [if_pos (by omega)]
    rw [h2, bsome]
    by_cases d : (Smp.takeS (ls (Lbl.takeL s).2.1)).2.2 = 0
    · rw [if_pos d, if_pos d]
      by_cases e : (Smp.takeS (ls (Lbl.takeL s).2.1)).2.1.toList = []
      · rw [if_pos e, if_pos e]
      · rw [if_neg e, if_neg e]
    · rw [if_neg d, if_neg d]
  · rw [if_neg c, if_neg c]
/-- Two entries, compared. -/
theorem esame_f (l l' : List S52) (m m' : List Sm) (h1 : l.length ≤ 100000) (h2 : m.length ≤ 100000) {k : Nat} (hk : l.length + 1 ≤ k) (hk2 : m.length + 1 ≤ k) : ∃ b, postroomref5_Same.f k l m l' m' = some b ∧ (b = true ↔ l = l' ∧ m = m') := by
  unfold postroomref5_Same.f
  obtain ⟨b, hb, hb2⟩ := Lbl.same_f l l' (by omega) (k := k) (by omega)
  rw [hb, bsome]
  by_cases c : b = true
  · rw [if_pos c, Smp.same_f (by omega) (by omega), bsome]
    refine ⟨_, rfl, ?_⟩
    rw [decide_eq_true_eq]
    exact ⟨fun h => ⟨hb2.1 c, h⟩, fun h => h.2⟩
  · rw [if_neg c]
    exact ⟨_, rfl, ⟨(fun h => by cases h), fun h => absurd (hb2.2 h.1) c⟩⟩
theorem esame_self (l : List S52) (m : List Sm) (h1 : l.length ≤ 100000) (h2 : m.length ≤ 100000) {k : Nat} (hk : l.length + 1 ≤ k) (hk2 : m.length + 1 ≤ k) : postroomref5_Same.f k l m l m = some true := by
  obtain ⟨b, hb, hb2⟩ := esame_f l l m m h1 h2 hk hk2
  rw [hb, hb2.2 ⟨rfl, rfl⟩]
theorem okp_size {p : S52} (h : Lbl.okP p) : p.f0.size ≤ 20 := by
  have := Lbl.nameOk_len h.1
  unfold Lbl.nm at this
  rw [← Lbl.ls_toList, Lbl.size_ls] at this
  exact this
theorem good_size {l : List S52} (h : Lbl.Good l) : ∀ p ∈ l, p.f0.size ≤ 20 := fun p hp => okp_size (h.ok p hp)
/-- The chapter's example. -/
theorem one_good : Lbl.Good [Lbl.mk [97] [49]] where
  few := by simp
  ok := by
    intro p hp
    obtain rfl := List.mem_singleton.1 hp
    exact Lbl.okP_mk (by decide) (by decide)
  once := by simp
theorem one_sort : sortL [Lbl.mk [97] [49]] = [Lbl.mk [97] [49]] := Lbl.sortL_id (by unfold Lbl.Strict; simp)
theorem shown_f {k : Nat} (hk : 1003 ≤ k) : postroomlaw5_shown.f k = some true := by
  unfold postroomlaw5_shown.f
  have e : entry_Put.f k [Lbl.mk [97] [49]] [⟨5, 2⟩] = _ := eput_ok one_good (by decide) (by intro x hx; obtain rfl := List.mem_singleton.1 hx; exact ⟨by decide, by decide⟩) hk
  refine (congrArg (fun o => Option.bind o _) e).trans ?_
  rw [bsome]
  have e3 : entry_Take.f k (⟨#[]⟩ : ByteArray) = some badE := by
    have h := etake_f (s := []) (by simp) (k := k) (by omega)
    rw [show takeE [] = badE from finE_no1 (show (Lbl.takeL []).2.2 ≠ 0 by unfold Lbl.takeL; simp only [dec]; decide) _] at h
    exact h
  rw [e3, bsome, if_pos rfl]
  have e2 : bytesE [Lbl.mk [97] [49]] [⟨5, 2⟩] = [1, 1, 97, 1, 49, 1, 5, 4] := by
    unfold bytesE
    rw [Lbl.lbytes_eq, one_sort]
    have e4 : enc [Lbl.mk [97] [49]].length ++ Lbl.lbody [Lbl.mk [97] [49]] = [1, 1, 97, 1, 49] := by
      simp only [Lbl.lbody, List.flatMap_cons, List.flatMap_nil, Lbl.mk, ls_bs, encT, List.length_cons, List.length_nil, enc_small (show 0 + 1 < 128 by decide)]
      decide
    rw [e4]
    decide +kernel
  rw [bs_toList, e2]; rfl
/-- Entries made of numbers. -/
theorem entryOf_f {n p : List Int} {a : Int} (hn : ∀ x ∈ n, (Lit.int .i64 x).wf = true) (ha : (Lit.int .u64 a).wf = true) (hp : p.length ≤ 140737488351232) (hw : ∀ x ∈ p, (Lit.int .i64 x).wf = true) {k : Nat} (hk : 99 ≤ k) :
    ∃ l, postroomlaw5_entryOf.f k n a p = some (l, Smp.smp a p) ∧ postroomlaw5_labelsOf.f k n = some l ∧ Lbl.Good l := by
  obtain ⟨l, h1, h2⟩ := Lbl.labels_f hn hk
  refine ⟨l, ?_, h1, h2.good⟩
  unfold postroomlaw5_entryOf.f
  rw [h1, bsome, Smp.samplesOf_f ha hp hw (by omega), bsome]
end Go.Proofs.YthaegbiblblccaaGreatDoor.Ent
