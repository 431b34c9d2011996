/- Chapter 5: an entry's bytes are those of its labels and those of its samples; what the printed functions answer. Conditions: those that each theorem names. -/
import Derived.Test.YthaegbiblblccaaGreatDoorLblGlue2
import Derived.Test.YthaegbiblblccaaGreatDoorSmpGlue
import Derived.Test.YthaegbiblblccaaGreatDoorSmpGlue0
import Derived.Test.YthaegbiblblccaaGreatDoorGEntryTake
import Derived.Test.YthaegbiblblccaaGreatDoorSmpRTake
import Derived.Test.YthaegbiblblccaaGreatDoorGRefPut
import Derived.Test.YthaegbiblblccaaGreatDoorXEntP1
import Derived.Test.YthaegbiblblccaaGreatDoorXEntP2
import Derived.Test.YthaegbiblblccaaGreatDoorXEntP3
import Derived.Test.YthaegbiblblccaaGreatDoorXEntP4
namespace Go.Proofs.YthaegbiblblccaaGreatDoor.Ent
open Go.RowKit Go.Proofs.YthaegbiblblccaaGreatDoorW.PrintWords Go.Proofs.YthaegbiblblccaaGreatDoorW.PrintLast Go.Proofs.YthaegbiblblccaaGreatDoorW.PrintMore Go.Proofs.YthaegbiblblccaaGreatDoor.Num Go.Proofs.YthaegbiblblccaaGreatDoor.XEnt
set_option linter.unusedVariables false
set_option linter.unusedSimpArgs false
abbrev Sm := S54
def chkE (l : List S52) (m : List Sm) : Int := if Lbl.chk l = 0 then Smp.chk m else Lbl.chk l
theorem chkE_zero {l : List S52} {m : List Sm} : chkE l m = 0 ↔ Lbl.Good l ∧ Smp.chk m = 0 := by
  unfold chkE
  rw [← Lbl.chk_zero]
  by_cases c : Lbl.chk l = 0
  · rw [if_pos c]; exact ⟨fun h => ⟨c, h⟩, fun h => h.2⟩
  · rw [if_neg c]; exact ⟨fun h => absurd h c, fun h => h.1⟩
theorem echeck_f (l : List S52) (m : List Sm) {k : Nat} (hk : 1003 ≤ k) : entry_Check.f k l m = some (chkE l m) := by
  unfold entry_Check.f chkE
  rw [Lbl.check_f l (by omega), bsome]
  by_cases c : Lbl.chk l = 0
  · rw [if_pos c, if_pos c, Smp.check_f m k hk, bsome]
  · rw [if_neg c, if_neg c]
def bytesE (l : List S52) (m : List Sm) : List UInt8 := Lbl.lbytes l ++ Smp.bytes m
theorem lbytes_len {l : List S52} (h : Lbl.Good l) : (Lbl.lbytes l).length ≤ 810 := by
  have h1 := h.few
  have h2 := Lbl.body_len (sortL l) (Lbl.good_sort h).ok
  have h3 := enc_len10 (n := l.length) (by omega)
  have h4 := Lbl.sort_len l
  unfold Lbl.lbytes
  rw [List.length_append]; omega
theorem bytesE_len {l : List S52} {m : List Sm} (h : Lbl.Good l) (hc : Smp.chk m = 0) (hw : ∀ x ∈ m, Smp.WF x) : (bytesE l m).length ≤ 1310 := by
  have h1 := lbytes_len h
  have h2 := Smp.bytes_len hc hw
  unfold bytesE
  rw [List.length_append]; omega
theorem eput_f (l : List S52) (m : List Sm) (hw : ∀ x ∈ m, Smp.WF x) {k : Nat} (hk : 1003 ≤ k) : entry_Put.f k l m = some (if chkE l m = 0 then (bs (bytesE l m), 0) else (bs [], chkE l m)) := by
  unfold entry_Put.f
  rw [echeck_f l m hk, bsome]
  by_cases c : chkE l m = 0
  · obtain ⟨hg, hc⟩ := chkE_zero.1 c
    have h1 := lbytes_len hg
    have h2 := Smp.bytes_len hc hw
    rw [if_pos c, if_pos c, Lbl.put_goodf hg (by omega), bsome, Smp.put_ok hw hc, bsome, if_pos (by simp only [bs_size]; omega)]
    simp only [bs_app]
    rfl
  · rw [if_neg c, if_neg c]; rfl
theorem eput_ok {l : List S52} {m : List Sm} (hg : Lbl.Good l) (hc : Smp.chk m = 0) (hw : ∀ x ∈ m, Smp.WF x) {k : Nat} (hk : 1003 ≤ k) : entry_Put.f k l m = some (bs (bytesE l m), 0) := by
  rw [eput_f l m hw hk, if_pos (chkE_zero.2 ⟨hg, hc⟩)]
abbrev badE : List S52 × List Sm × Int := ([], [], 2)
def finE (t : List S52 × ByteArray × Int) (u : List Sm × ByteArray × Int) : List S52 × List Sm × Int :=
  if t.2.2 = 0 then (if u.2.2 = 0 then (if u.2.1.toList = [] then (t.1, u.1, 0) else badE) else badE) else badE
theorem finE_ok (l : List S52) (q : ByteArray) (o : List Sm) (u : List UInt8) : finE (l, q, 0) (o, bs u, 0) = if u = [] then (l, o, 0) else badE := by
  unfold finE
  rw [if_pos rfl, if_pos rfl, bs_toList]
theorem finE_no1 {t : List S52 × ByteArray × Int} (h : t.2.2 ≠ 0) (u : List Sm × ByteArray × Int) : finE t u = badE := by unfold finE; rw [if_neg h]
theorem finE_no2 (t : List S52 × ByteArray × Int) {u : List Sm × ByteArray × Int} (h : u.2.2 ≠ 0) : finE t u = badE := by
  unfold finE
  by_cases c : t.2.2 = 0
  · rw [if_pos c, if_neg h]
  · rw [if_neg c]
def takeE (s : List UInt8) : List S52 × List Sm × Int := finE (Lbl.takeL s) (Smp.takeS (ls (Lbl.takeL s).2.1))
theorem rest_le {s : List UInt8} (h : (Lbl.takeL s).2.2 = 0) : (Lbl.takeL s).2.1.size ≤ s.length := by
  obtain ⟨l, q, h1, _, _, h4⟩ := Lbl.takeL_ok h
  rw [h1, h4, List.length_append]
  show (bs q).size ≤ _
  rw [bs_size]; omega
theorem etake_f {s : List UInt8} (hs : s.length ≤ 140737488351232) {k : Nat} (hk : 70 ≤ k) : entry_Take.f k (bs s) = some (takeE s) := by
  unfold entry_Take.f takeE finE
  rw [Lbl.ltake_f hs hk, bsome]
  by_cases c : (Lbl.takeL s).2.2 = 0
  · have h1 := rest_le c
    rw [if_pos c, if_pos c]
    have h2 : sample_Take.f (Lbl.takeL s).2.1 = some (Smp.takeS (ls (Lbl.takeL s).2.1)) := by unfold sample_Take.f; rw [if_pos (by omega)]
    rw [h2, bsome]
    by_cases d : (Smp.takeS (ls (Lbl.takeL s).2.1)).2.2 = 0
    · rw [if_pos d, if_pos d]
      by_cases e : (Smp.takeS (ls (Lbl.takeL s).2.1)).2.1.toList = []
      · rw [if_pos e, if_pos e]
      · rw [if_neg e, if_neg e]
    · rw [if_neg d, if_neg d]
  · rw [if_neg c, if_neg c]
/-- What is taken was put so, or nothing is. -/
theorem takeE_cases (s : List UInt8) : (∃ l m, takeE s = (l, m, 0) ∧ s = bytesE l m ∧ Lbl.Good l ∧ sortL l = l ∧ Smp.chk m = 0 ∧ ∀ x ∈ m, Smp.WF x) ∨ takeE s = badE := by
  by_cases c : (Lbl.takeL s).2.2 = 0
  · obtain ⟨l, q, h1, h2, h3, h4⟩ := Lbl.takeL_ok c
    have e0 : takeE s = finE (l, bs q, 0) (Smp.takeS q) := by unfold takeE; rw [h1]; rfl
    rw [e0]
    rcases Smp.takeS_cases q with ⟨o, u, k1, k2⟩ | ⟨_, k2⟩
    · rw [k2, finE_ok]
      obtain ⟨e1, e2, e3⟩ := Smp.taken_some k1
      by_cases e : u = []
      · rw [if_pos e]
        exact .inl ⟨l, o, rfl, by unfold bytesE; rw [h4, e1, e, List.append_nil], h2, h3, e2, e3⟩
      · rw [if_neg e]; exact .inr rfl
    · rw [k2]; exact .inr (finE_no2 _ (show (2 : Int) ≠ 0 by decide))
  · exact .inr (finE_no1 c _)
/-- What was put, with something behind it. -/
theorem takeE_put {l : List S52} {m : List Sm} (hg : Lbl.Good l) (hc : Smp.chk m = 0) (hw : ∀ x ∈ m, Smp.WF x) (r : List UInt8) : takeE (bytesE l m ++ r) = if r = [] then (sortL l, m, 0) else badE := by
  have h1 : Lbl.takeL (bytesE l m ++ r) = (sortL l, bs (Smp.bytes m ++ r), 0) := by unfold bytesE; rw [List.append_assoc, Lbl.takeL_put hg]
  have e0 : takeE (bytesE l m ++ r) = finE (sortL l, bs (Smp.bytes m ++ r), 0) (Smp.takeS (Smp.bytes m ++ r)) := by unfold takeE; rw [h1]; rfl
  rw [e0, Smp.takeS_bytes hc hw, finE_ok]
theorem takeE_all {l : List S52} {m : List Sm} (hg : Lbl.Good l) (hc : Smp.chk m = 0) (hw : ∀ x ∈ m, Smp.WF x) : takeE (bytesE l m) = (sortL l, m, 0) := by
  have h := takeE_put hg hc hw []
  rw [List.append_nil, if_pos rfl] at h
  exact h
theorem takeE_cut {l : List S52} {m : List Sm} (hg : Lbl.Good l) (hc : Smp.chk m = 0) (hw : ∀ x ∈ m, Smp.WF x) {c : Nat} (h : c < (bytesE l m).length) : takeE ((bytesE l m).take c) = badE := by
  rcases takeE_cases ((bytesE l m).take c) with ⟨l', m', h1, h2, h3, h4, h5, h6⟩ | h1
  · exfalso
    have e := takeE_put h3 h5 h6 ((bytesE l m).drop c)
    rw [← h2, List.take_append_drop, takeE_all hg hc hw, if_neg (by intro h7; have := congrArg List.length h7; rw [List.length_drop] at this; simp at this; omega)] at e
    have := (Prod.mk.inj (Prod.mk.inj e).2).2
    cases this
  · exact h1
theorem bytesE_inj {l l' : List S52} {m m' : List Sm} (hg : Lbl.Good l) (hc : Smp.chk m = 0) (hw : ∀ x ∈ m, Smp.WF x) (hg' : Lbl.Good l') (hc' : Smp.chk m' = 0) (hw' : ∀ x ∈ m', Smp.WF x) : bytesE l m = bytesE l' m' ↔ sortL l = sortL l' ∧ m = m' := by
  constructor
  · intro h
    have h1 := takeE_all hg hc hw
    rw [h, takeE_all hg' hc' hw'] at h1
    obtain ⟨e1, e2⟩ := Prod.mk.inj h1
    exact ⟨e1.symm, (Prod.mk.inj e2).1.symm⟩
  · rintro ⟨h1, h2⟩
    unfold bytesE
    rw [h2, (Lbl.lbytes_inj hg hg').2 h1]
theorem takeE_few (s : List UInt8) : (takeE s).1.length ≤ 8 ∧ (takeE s).2.1.length ≤ 20 := by
  rcases takeE_cases s with ⟨l, m, h1, _, h3, _, h5, _⟩ | h1
  · rw [h1]; exact ⟨h3.few, (Smp.chk_len h5).2⟩
  · rw [h1]; simp
/-- Two entries, compared. -/
theorem esame_f (l l' : List S52) (m m' : List Sm) (h1 : l.length ≤ 100000) (h2 : m.length ≤ 100000) {k : Nat} (hk : l.length + 1 ≤ k) (hk2 : m.length + 1 ≤ k) : ∃ b, postroomref5_Same.f k l m l' m' = some b ∧ (b = true ↔ l = l' ∧ m = m') := by
  unfold postroomref5_Same.f
  obtain ⟨b, hb, hb2⟩ := Lbl.same_f l l' (by omega) (k := k) (by omega)
  rw [hb, bsome]
  by_cases c : b = true
  · rw [if_pos c, Smp.same_f (by omega) (by omega), bsome]
    refine ⟨_, rfl, ?_⟩
    rw [decide_eq_true_eq]
    exact ⟨fun h => ⟨hb2.1 c, h⟩, fun h => h.2⟩
  · rw [if_neg c]
    exact ⟨_, rfl, ⟨(fun h => by cases h), fun h => absurd (hb2.2 h.1) c⟩⟩
theorem esame_self (l : List S52) (m : List Sm) (h1 : l.length ≤ 100000) (h2 : m.length ≤ 100000) {k : Nat} (hk : l.length + 1 ≤ k) (hk2 : m.length + 1 ≤ k) : postroomref5_Same.f k l m l m = some true := by
  obtain ⟨b, hb, hb2⟩ := esame_f l l m m h1 h2 hk hk2
  rw [hb, hb2.2 ⟨rfl, rfl⟩]
theorem okp_size {p : S52} (h : Lbl.okP p) : p.f0.size ≤ 20 := by
  have := Lbl.nameOk_len h.1
  unfold Lbl.nm at this
  rw [← Lbl.ls_toList, Lbl.size_ls] at this
  exact this
theorem good_size {l : List S52} (h : Lbl.Good l) : ∀ p ∈ l, p.f0.size ≤ 20 := fun p hp => okp_size (h.ok p hp)
/-- The chapter's example. -/
theorem one_good : Lbl.Good [Lbl.mk [97] [49]] where
  few := by simp
  ok := by
    intro p hp
    obtain rfl := List.mem_singleton.1 hp
    exact Lbl.okP_mk (by decide) (by decide)
  once := by simp
theorem one_sort : sortL [Lbl.mk [97] [49]] = [Lbl.mk [97] [49]] := Lbl.sortL_id (by unfold Lbl.Strict; simp)
theorem shown_f {k : Nat} (hk : 1003 ≤ k) : postroomlaw5_shown.f k = some true := by
  unfold postroomlaw5_shown.f
  have e : entry_Put.f k [Lbl.mk [97] [49]] [⟨5, 2⟩] = _ := eput_ok one_good (by decide) (by intro x hx; obtain rfl := List.mem_singleton.1 hx; exact ⟨by decide, by decide⟩) hk
  refine (congrArg (fun o => Option.bind o _) e).trans ?_
  rw [bsome]
  have e3 : entry_Take.f k (⟨#[]⟩ : ByteArray) = some badE := by
    have h := etake_f (s := []) (by simp) (k := k) (by omega)
    rw [show takeE [] = badE from finE_no1 (show (Lbl.takeL []).2.2 ≠ 0 by unfold Lbl.takeL; simp only [dec]; decide) _] at h
    exact h
  rw [e3, bsome, if_pos rfl]
  have e2 : bytesE [Lbl.mk [97] [49]] [⟨5, 2⟩] = [1, 1, 97, 1, 49, 1, 5, 4] := by
    unfold bytesE
    rw [Lbl.lbytes_eq, one_sort]
    have e4 : enc [Lbl.mk [97] [49]].length ++ Lbl.lbody [Lbl.mk [97] [49]] = [1, 1, 97, 1, 49] := by
      simp only [Lbl.lbody, List.flatMap_cons, List.flatMap_nil, Lbl.mk, ls_bs, encT, List.length_cons, List.length_nil, enc_small (show 0 + 1 < 128 by decide)]
      decide
    rw [e4]
    decide +kernel
  rw [bs_toList, e2]; rfl
theorem few_l0 (l : List S52) (m : List Sm) (hl : l.length ≤ 9223372036854775807) : ∀ (d k i : Nat) (x : Int), i + d = l.length → d < k → ∃ b, postroomlaw5_few.l0 k x (i : Int) l m = some b ∧ (b = true → l.length ≤ 20 ∧ m.length ≤ 40)
  | 0, k, i, x, hi, hk => by
    obtain ⟨k, rfl⟩ : ∃ q, k = q + 1 := ⟨k - 1, by omega⟩
    rw [postroomlaw5_few.l0, if_neg (by omega)]
    by_cases c : (l.length : Int) ≤ 20
    · rw [if_pos c]
      by_cases d : x ≤ 2000
      · rw [if_pos d]; exact ⟨_, rfl, fun h => by rw [decide_eq_true_eq] at h; omega⟩
      · rw [if_neg d]; exact ⟨_, rfl, fun h => by cases h⟩
    · rw [if_neg c]; exact ⟨_, rfl, fun h => by cases h⟩
  | d + 1, k, i, x, hi, hk => by
    obtain ⟨k, rfl⟩ : ∃ q, k = q + 1 := ⟨k - 1, by omega⟩
    rw [postroomlaw5_few.l0, if_pos (by omega), if_pos (by omega), Lbl.w_succ (by omega)]
    exact few_l0 l m hl d k (i + 1) _ (by omega) (by omega)
theorem few_f (l : List S52) (m : List Sm) (hl : l.length ≤ 9223372036854775807) {k : Nat} (hk : l.length < k) : ∃ b, postroomlaw5_few.f k l m = some b ∧ (b = true → l.length ≤ 20 ∧ m.length ≤ 40) := few_l0 l m hl l.length k 0 0 (by omega) hk
theorem recheck_f (l : List S52) (m : List Sm) (B : Nat) (hB : B ≤ 9223372036854775807) (hs : ∀ p ∈ l, p.f0.size ≤ B) {k : Nat} (hk : B + 1100 ≤ k) : postroomref5_Check.f k l m = some (chkE l m) := by
  unfold postroomref5_Check.f chkE
  rw [Lbl.rcheck_f l B hB hs (by omega), bsome]
  by_cases c : Lbl.chk l = 0
  · rw [if_pos c, if_pos c, rcheck_f m k (by omega), bsome]
  · rw [if_neg c, if_neg c]
theorem reput_f (l : List S52) (m : List Sm) (hw : ∀ x ∈ m, Smp.WF x) (B : Nat) (hB : B ≤ 9223372036854775807) (hs : ∀ p ∈ l, p.f0.size ≤ B) {k : Nat} (hk : B + 1100 ≤ k) : postroomref5_Put.f k l m = some (if chkE l m = 0 then (bs (bytesE l m), 0) else (bs [], chkE l m)) := by
  unfold postroomref5_Put.f
  rw [recheck_f l m B hB hs hk, bsome]
  by_cases c : chkE l m = 0
  · obtain ⟨hg, hc⟩ := chkE_zero.1 c
    have h1 := lbytes_len hg
    have h2 := Smp.bytes_len hc hw
    have e1 : Lbl.putL l = (bs (Lbl.lbytes l), 0) := by unfold Lbl.putL; rw [if_pos (Lbl.good_chk hg)]
    have e2 : postroomref4_Put.f m = some (bs (Smp.bytes m), 0) := by unfold postroomref4_Put.f; rw [if_pos hw]; unfold Smp.putS; rw [if_pos hc]
    rw [if_pos c, if_pos c, Lbl.rlput_f l B hB hs (by omega), bsome, e1, e2, bsome, if_pos (by simp only [bs_size]; omega)]
    simp only [bs_app]
    rfl
  · rw [if_neg c, if_neg c]; rfl
theorem retake_f {s : List UInt8} (hs : s.length ≤ 140737488351232) {k : Nat} (hk : 1300 ≤ k) : postroomref5_Take.f k (bs s) = some (takeE s) := by
  unfold postroomref5_Take.f takeE finE
  rw [Lbl.rltake_f hs (by omega), bsome]
  by_cases c : (Lbl.takeL s).2.2 = 0
  · have h1 := rest_le c
    rw [if_pos c, if_pos c]
    have h2 : postroomref4_Take.f k (Lbl.takeL s).2.1 = some (Smp.takeS (ls (Lbl.takeL s).2.1)) := by
      have h := Smp.rtake4_f (l := ls (Lbl.takeL s).2.1) (k := k) (by rw [Lbl.size_ls]; omega) (by omega)
      rw [bs_ls] at h; exact h
    rw [h2, bsome]
    by_cases d : (Smp.takeS (ls (Lbl.takeL s).2.1)).2.2 = 0
    · rw [if_pos d, if_pos d]
      by_cases e : (Smp.takeS (ls (Lbl.takeL s).2.1)).2.1.toList = []
      · rw [if_pos e, if_pos e]
      · rw [if_neg e, if_neg e]
    · rw [if_neg d, if_neg d]
  · rw [if_neg c, if_neg c]
theorem series_f (l : List S52) (m : List Sm) {k : Nat} (hk : 10 ≤ k) : entry_Series.f k l m = some (Lbl.putL l) := by
  unfold entry_Series.f
  rw [Lbl.lput_f l hk, bsome]
end Go.Proofs.YthaegbiblblccaaGreatDoor.Ent
