/- Chapter 3: the document's bytes, takings, values, and made labels come to the plain law. Conditions: those that each theorem names. -/
import Derived.Test.YthaegbiblblccaaGreatDoorLblGlue
import Derived.Test.YthaegbiblblccaaGreatDoorXEntP1
import Derived.Test.YthaegbiblblccaaGreatDoorXEntP3
import Derived.Test.YthaegbiblblccaaGreatDoorXEntP2
namespace Go.Proofs.YthaegbiblblccaaGreatDoor.Lbl
open Go Go.RowKit Go.Proofs.YthaegbiblblccaaGreatDoorW.PrintWords Go.Proofs.YthaegbiblblccaaGreatDoorW.PrintLast Go.Proofs.YthaegbiblblccaaGreatDoorW.PrintMore Go.Proofs.YthaegbiblblccaaGreatDoor.Num Go.Proofs.YthaegbiblblccaaGreatDoor.XEnt
set_option linter.unusedVariables false
set_option linter.unusedSimpArgs false
theorem toList_inj {a b : ByteArray} (h : a.toList = b.toList) : a = b := by rw [← bs_ls a, ← bs_ls b, ls_toList, ls_toList, h]
theorem q_ext {p q : Q} (h0 : p.f0.toList = q.f0.toList) (h1 : p.f1.toList = q.f1.toList) : p = q := by
  obtain ⟨a, b⟩ := p
  obtain ⟨c, d⟩ := q
  have e0 : a = c := toList_inj h0
  have e1 : b = d := toList_inj h1
  rw [e0, e1]
theorem same_l0 (l m : List Q) (hlen : l.length = m.length) (hb : l.length ≤ 1000000000) : ∀ (d k i : Nat), i + d = l.length → d < k → ∃ b, postroomref3_Same.l0 k l m (i : Int) = some b ∧ (b = true ↔ l.drop i = m.drop i)
  | 0, k, i, hi, hk => by
    obtain ⟨k, rfl⟩ : ∃ q, k = q + 1 := ⟨k - 1, by omega⟩
    rw [postroomref3_Same.l0, if_neg (by omega)]
    exact ⟨_, rfl, by rw [List.drop_eq_nil_of_le (by omega), List.drop_eq_nil_of_le (by omega)]; simp⟩
  | d + 1, k, i, hi, hk => by
    obtain ⟨k, rfl⟩ : ∃ q, k = q + 1 := ⟨k - 1, by omega⟩
    have h1 : i < l.length := by omega
    have h2 : i < m.length := by omega
    obtain ⟨b, hb1, hb2⟩ := same_l0 l m hlen hb d k (i + 1) (by omega) (by omega)
    rw [postroomref3_Same.l0, if_pos (by omega), if_pos (by omega), if_pos (by omega), rd_q l i h1, rd_q m i h2, List.drop_eq_getElem_cons h1, List.drop_eq_getElem_cons h2]
    by_cases c : l[i] = m[i]
    · rw [c, if_neg (by simp), w_succ (by omega)]
      exact ⟨b, hb1, hb2.trans ⟨fun h => by rw [h], fun h => (List.cons.inj h).2⟩⟩
    · rw [if_pos ?_]
      · exact ⟨false, rfl, ⟨(fun h => by cases h), fun h => absurd (List.cons.inj h).1 c⟩⟩
      · rw [Bool.or_eq_true, Bool.not_eq_true', Bool.not_eq_true', beq_eq_false_iff_ne, beq_eq_false_iff_ne]
        by_cases e : l[i].f0.toList = m[i].f0.toList
        · exact .inr (fun e2 => c (q_ext e e2))
        · exact .inl e
theorem same_f (l m : List Q) (hb : l.length ≤ 1000000000) {k : Nat} (hk : l.length < k) : ∃ b, postroomref3_Same.f k l m = some b ∧ (b = true ↔ l = m) := by
  unfold postroomref3_Same.f
  by_cases c : l.length = m.length
  · rw [if_pos (by omega)]
    exact same_l0 l m c hb l.length k 0 (by omega) hk
  · rw [if_neg (by omega)]
    exact ⟨_, rfl, by constructor <;> intro h; cases h; exact absurd (congrArg List.length h) c⟩
theorem same_self (l : List Q) (hb : l.length ≤ 1000000000) {k : Nat} (hk : l.length < k) : postroomref3_Same.f k l l = some true := by
  obtain ⟨b, h1, h2⟩ := same_f l l hb hk
  rw [h1, h2.2 rfl]

/-! ### the document's bytes -/
theorem rlput_l0 (S : List Q) (hs : ∀ p ∈ S, Small p) (h8 : S.length ≤ 8) : ∀ (d k i : Nat) (acc : List UInt8), i + d = S.length → d + 10 < k → acc.length + 200 * d ≤ 100000 → postroomref3_Put.l0 k S (bs acc) (i : Int) = some (bs (acc ++ lbody (S.drop i)), 0)
  | 0, k, i, acc, hi, hk, ha => by
    obtain ⟨k, rfl⟩ : ∃ q, k = q + 1 := ⟨k - 1, by omega⟩
    rw [postroomref3_Put.l0, if_neg (by omega), List.drop_eq_nil_of_le (by omega)]
    simp [lbody]
  | d + 1, k, i, acc, hi, hk, ha => by
    obtain ⟨k, rfl⟩ : ∃ q, k = q + 1 := ⟨k - 1, by omega⟩
    have h1 : i < S.length := by omega
    have hp := hs S[i] (List.getElem_mem _)
    have e0 := rputText_f (k := k) (l := ls S[i].f0) (by have := hp.name; omega) (by omega)
    have e1 := rputText_f (k := k) (l := ls S[i].f1) (by have := hp.value; omega) (by omega)
    have l0 := encT_len (t := ls S[i].f0) (by have := hp.name; omega)
    have l1 := encT_len (t := ls S[i].f1) hp.value
    rw [bs_ls] at e0 e1
    rw [postroomref3_Put.l0, if_pos (by omega), if_pos (by omega), rd_q S i h1, e0, bsome, if_pos (by rw [bs_size, bs_size]; omega), e1, bsome, if_pos (by rw [bs_app, bs_size, bs_size, List.length_append]; omega), bs_app, bs_app, w_succ (by omega), rlput_l0 S hs h8 d k (i + 1) _ (by omega) (by omega) (by rw [List.length_append, List.length_append]; omega), List.drop_eq_getElem_cons h1, lbody_cons]
    simp only [List.append_assoc]
theorem rlput_f (l : List Q) (B : Nat) (hB : B ≤ 9223372036854775807) (hs : ∀ p ∈ l, p.f0.size ≤ B) {k : Nat} (hk : B + 100 ≤ k) : postroomref3_Put.f k l = some (putL l) := by
  unfold postroomref3_Put.f putL
  rw [rcanon_f l B hB hs hk, bsome]
  by_cases c : chk l = 0
  · have hg := (chk_zero l).1 c
    have h8 := hg.few
    have hlen := sort_len l
    rw [if_pos c, if_pos c]
    show (if (0 : Int) = 0 then ((postroomref1_Put.f k (IntKind.u64.wrap ((sortL l).length : Int))).bind fun t => postroomref3_Put.l0 k (sortL l) t 0) else _) = _
    rw [if_pos rfl, u64_id (by omega) (by omega), rput_f (by omega) (by omega), bsome]
    have h := rlput_l0 (sortL l) (sort_small hg) (by omega) l.length k 0 (enc (sortL l).length) (by omega) (by omega) (by have := enc_len10 (n := (sortL l).length) (by omega); omega)
    rw [List.drop_zero, ← lbytes_eq] at h
    exact h
  · rw [if_neg c, if_neg c, if_neg c]; rfl

/-! ### what is taken -/
def takeFin (acc : List Q) (n : Nat) (r : List UInt8) : List Q × ByteArray × Int := match takeN n r with
  | some (l, q) => if ascG none (acc ++ l) = true then (if chk (acc ++ l) = 0 then (acc ++ l, bs q, 0) else bad) else bad
  | none => bad
theorem takeFin_step {acc : List Q} {d : Nat} {r r2 : List UInt8} {p : Q} (h : takeOne r = some (p, r2)) : takeFin acc (d + 1) r = takeFin (acc ++ [p]) d r2 := by
  unfold takeFin
  rw [takeN, h, bsome]
  simp only []
  cases e : takeN d r2 with
  | none => rfl
  | some lq => rw [bsome]; simp only [List.append_assoc, List.singleton_append]
theorem takeFin_none {acc : List Q} {d : Nat} {r : List UInt8} (h : takeOne r = none) : takeFin acc (d + 1) r = bad := by
  unfold takeFin
  rw [takeN, h]; rfl
theorem takeFin_bad {acc : List Q} {d : Nat} {r : List UInt8} (h : ascG none acc ≠ true) : takeFin acc d r = bad := by
  unfold takeFin
  cases e : takeN d r with
  | none => rfl
  | some lq =>
    obtain ⟨l, q⟩ := lq
    simp only []
    rw [if_neg]
    intro h2
    exact h ((ascG_none _).2 (List.Pairwise.sublist (List.sublist_append_left _ _) ((ascG_none _).1 h2)))
theorem strict_snoc {acc : List Q} {p : Q} (h : Strict acc) (hn : 0 < acc.length) : Strict (acc ++ [p]) ↔ nm acc[acc.length - 1] < nm p := by
  unfold Strict
  rw [List.pairwise_append]
  constructor
  · rintro ⟨_, _, h3⟩
    exact h3 _ (List.getElem_mem _) p (by simp)
  · intro h3
    refine ⟨h, by simp, ?_⟩
    intro a ha b hb
    obtain rfl := List.mem_singleton.1 hb
    obtain ⟨i, hi, rfl⟩ := List.getElem_of_mem ha
    rcases Nat.lt_or_ge i (acc.length - 1) with h4 | h4
    · unfold Strict at h
      rw [List.pairwise_iff_getElem] at h
      exact List.lt_trans (h i (acc.length - 1) hi (by omega) h4) h3
    · have : i = acc.length - 1 := by omega
      subst this; exact h3
theorem txt_len {s : List UInt8} {m : Nat} {a : ByteArray} {r : List UInt8} (h : txt s m = some (a, r)) : r.length ≤ s.length := by
  rw [(txt_some h).1, List.length_append]; omega
theorem ltake_l0 (n : Nat) (hn : n ≤ 8) : ∀ (d k i : Nat) (acc : List Q) (r : List UInt8), i + d = n → acc.length = i → ascG none acc = true → r.length ≤ 140737488351232 → d + 50 < k → label_Take.l0 k (bs r) acc (n : Int) (i : Int) = some (takeFin acc d r)
  | 0, k, i, acc, r, hi, hl, ha, hr, hk => by
    obtain ⟨k, rfl⟩ : ∃ q, k = q + 1 := ⟨k - 1, by omega⟩
    rw [label_Take.l0, if_neg (by omega), check_f acc (by omega), bsome]
    unfold takeFin
    show _ = some (if ascG none (acc ++ []) = true then (if chk (acc ++ []) = 0 then (acc ++ [], bs r, 0) else bad) else bad)
    rw [List.append_nil, if_pos ha]
    by_cases c : chk acc = 0
    · rw [if_pos c, if_pos c]
    · rw [if_neg c, if_neg c]; rfl
  | d + 1, k, i, acc, r, hi, hl, ha, hr, hk => by
    obtain ⟨k, rfl⟩ : ∃ q, k = q + 1 := ⟨k - 1, by omega⟩
    rw [label_Take.l0, if_pos (by omega), takeText_f (most := 20) (by omega) hr (by omega), bsome]
    rcases takeTP_txt r 20 with ⟨a, r1, h1, h2⟩ | ⟨h1, e, he, h2⟩
    · have h2 : takeTP r 20 = (a, bs r1, 0) := h2
      have hr1 := txt_len h1
      rw [h2, if_pos rfl, takeText_f (most := 40) (by omega) (by omega) (by omega), bsome]
      rcases takeTP_txt r1 40 with ⟨b, r2, h3, h4⟩ | ⟨h3, e, he, h4⟩
      · have h4 : takeTP r1 40 = (b, bs r2, 0) := h4
        have hr2 := txt_len h3
        have ho : takeOne r = some (⟨a, b⟩, r2) := by unfold takeOne; rw [h1, bsome]; simp only []; rw [h3, bsome]
        rw [h4, if_pos rfl, takeFin_step ho]
        have next : ascG none (acc ++ [⟨a, b⟩]) = true → label_Take.l0 k (bs r2) (acc ++ [⟨a, b⟩]) (n : Int) (IntKind.u64.wrap ((i : Int) + 1)) = some (takeFin (acc ++ [⟨a, b⟩]) d r2) := fun h => by
          rw [u_succ (by omega)]
          exact ltake_l0 n hn d k (i + 1) _ r2 (by omega) (by rw [List.length_append, hl]; rfl) h (by omega) (by omega)
        by_cases c : 0 < acc.length
        · have hw : wrap64 ((acc.length : Int) - 1) = ((acc.length - 1 : Nat) : Int) := by rw [w64_id (by omega) (by omega)]; omega
          rw [if_pos (by omega), hw, if_pos (by omega), if_pos (by omega), rd_q acc (acc.length - 1) (by omega)]
          by_cases c2 : Op.bytesLess acc[acc.length - 1].f0.toList a.toList = true
          · rw [if_pos c2, if_pos (by omega)]
            exact next ((ascG_none _).2 ((strict_snoc ((ascG_none _).1 ha) c).2 ((less_iff _ _).1 c2)))
          · rw [if_neg c2, takeFin_bad]
            · rfl
            · intro h
              exact c2 ((less_iff _ _).2 ((strict_snoc ((ascG_none _).1 ha) c).1 ((ascG_none _).1 h)))
        · have hnil : acc = [] := List.eq_nil_of_length_eq_zero (by omega)
          rw [if_neg (by omega), if_pos (by omega)]
          refine next ?_
          rw [hnil]; rfl
      · have h4 : takeTP r1 40 = (bs [], bs [], e) := h4
        rw [h4, if_neg he, takeFin_none]
        · rfl
        · unfold takeOne; rw [h1, bsome]; simp only []; rw [h3]; rfl
    · have h2 : takeTP r 20 = (bs [], bs [], e) := h2
      rw [h2, if_neg he, takeFin_none]
      · rfl
      · unfold takeOne; rw [h1]; rfl
theorem takeL_fin {s r : List UInt8} {n : Nat} (h : dec 0 s = some (n, r)) (hn : ¬ n > 8) : takeL s = takeFin [] n r := by
  unfold takeL takeFin
  rw [h]
  simp only [List.nil_append]
  rw [if_neg hn]
  cases takeN n r with
  | none => rfl
  | some lq => rfl
theorem ltake_f {s : List UInt8} (hs : s.length ≤ 140737488351232) {k : Nat} (hk : 70 ≤ k) : label_Take.f k (bs s) = some (takeL s) := by
  unfold label_Take.f
  obtain ⟨k, rfl⟩ : ∃ q, k = q + 1 := ⟨k - 1, by omega⟩
  rw [take_f hs (by omega), bsome]
  unfold takeP
  cases e : dec 0 s with
  | none =>
    simp only []
    rw [if_neg (by decide), label_Take.j0, if_pos rfl]
    unfold takeL; rw [e]; rfl
  | some nr =>
    obtain ⟨n, r⟩ := nr
    simp only []
    rw [if_pos trivial, label_Take.j0]
    by_cases c : n > 8
    · rw [if_pos (decide_eq_true (by omega))]
      unfold takeL; rw [e]; simp only []; rw [if_pos c]; rfl
    · have hr : r.length ≤ s.length := by rw [(dec_some e).1, List.length_append]; omega
      rw [if_neg (by rw [decide_eq_true_eq]; omega), takeL_fin e c]
      exact ltake_l0 n (by omega) n k 0 [] r (by omega) rfl rfl (by omega) (by omega)

/-! ### what the document takes -/
def rtakeFin (s : List UInt8) (acc : List Q) (n : Nat) (r : List UInt8) : List Q × ByteArray × Int := match takeN n r with
  | some (l, q) => if (putL (acc ++ l)).2 = 0 then (if ((putL (acc ++ l)).1 ++ bs q).toList = s then (acc ++ l, bs q, 0) else bad) else bad
  | none => bad
theorem rtakeFin_step {s : List UInt8} {acc : List Q} {d : Nat} {r r2 : List UInt8} {p : Q} (h : takeOne r = some (p, r2)) : rtakeFin s acc (d + 1) r = rtakeFin s (acc ++ [p]) d r2 := by
  unfold rtakeFin
  rw [takeN, h, bsome]
  simp only []
  cases e : takeN d r2 with
  | none => rfl
  | some lq => rw [bsome]; simp only [List.append_assoc, List.singleton_append]
theorem rtakeFin_none {s : List UInt8} {acc : List Q} {d : Nat} {r : List UInt8} (h : takeOne r = none) : rtakeFin s acc (d + 1) r = bad := by
  unfold rtakeFin
  rw [takeN, h]; rfl
theorem putL_len (l : List Q) : (putL l).1.size ≤ 2000 := by
  unfold putL
  by_cases c : chk l = 0
  · rw [if_pos c]
    have hg := (chk_zero l).1 c
    have h1 := hg.few
    have h2 := body_len (sortL l) (good_sort hg).ok
    have h3 := enc_len10 (n := l.length) (by omega)
    have h4 := sort_len l
    show (bs (lbytes l)).size ≤ 2000
    unfold lbytes
    rw [bs_size, List.length_append]; omega
  · rw [if_neg c]; show (bs []).size ≤ 2000; rw [bs_size]; simp
theorem rltake_l0 (s : List UInt8) (n : Nat) (hn : n ≤ 8) : ∀ (d k i : Nat) (acc : List Q) (r : List UInt8), i + d = n → acc.length = i → (∀ p ∈ acc, p.f0.size ≤ 20) → r.length ≤ 140737488351232 → d + 200 < k → postroomref3_Take.l0 k (bs s) (n : Int) (bs r) acc (i : Int) = some (rtakeFin s acc d r)
  | 0, k, i, acc, r, hi, hl, ha, hr, hk => by
    obtain ⟨k, rfl⟩ : ∃ q, k = q + 1 := ⟨k - 1, by omega⟩
    have hp := putL_len acc
    rw [postroomref3_Take.l0, if_neg (by omega), rlput_f acc 20 (by omega) ha (by omega), bsome]
    unfold rtakeFin
    show _ = some (if (putL (acc ++ [])).2 = 0 then (if ((putL (acc ++ [])).1 ++ bs r).toList = s then (acc ++ [], bs r, 0) else bad) else bad)
    rw [List.append_nil, bs_toList]
    by_cases c : (putL acc).2 = 0
    · rw [if_pos c, if_pos c, if_pos (by rw [bs_size]; omega)]
      by_cases c2 : ((putL acc).1 ++ bs r).toList = s
      · rw [if_pos c2, if_pos c2]
      · rw [if_neg c2, if_neg c2]; rfl
    · rw [if_neg c, if_neg c]; rfl
  | d + 1, k, i, acc, r, hi, hl, ha, hr, hk => by
    obtain ⟨k, rfl⟩ : ∃ q, k = q + 1 := ⟨k - 1, by omega⟩
    rw [postroomref3_Take.l0, if_pos (by omega), rtakeText_f (most := 20) (by omega) hr (by omega), bsome]
    rcases takeTP_txt r 20 with ⟨a, r1, h1, h2⟩ | ⟨h1, e, he, h2⟩
    · have h2 : takeTP r 20 = (a, bs r1, 0) := h2
      have hr1 := txt_len h1
      rw [h2]
      simp only []
      rw [rtakeText_f (most := 40) (by omega) (by omega) (by omega), bsome, if_pos trivial]
      rcases takeTP_txt r1 40 with ⟨b, r2, h3, h4⟩ | ⟨h3, e, he, h4⟩
      · have h4 : takeTP r1 40 = (b, bs r2, 0) := h4
        have hr2 := txt_len h3
        have ho : takeOne r = some (⟨a, b⟩, r2) := by unfold takeOne; rw [h1, bsome]; simp only []; rw [h3, bsome]
        rw [h4, if_pos rfl, rtakeFin_step ho, if_pos (by omega), u_succ (by omega)]
        refine rltake_l0 s n hn d k (i + 1) _ r2 (by omega) (by rw [List.length_append, hl]; rfl) ?_ (by omega) (by omega)
        intro p hp
        rcases List.mem_append.1 hp with hp | hp
        · exact ha p hp
        · obtain rfl := List.mem_singleton.1 hp
          have := (takeOne_some ho).2.name
          rw [size_ls] at this; exact this
      · have h4 : takeTP r1 40 = (bs [], bs [], e) := h4
        rw [h4, if_neg he, rtakeFin_none]
        · rfl
        · unfold takeOne; rw [h1, bsome]; simp only []; rw [h3]; rfl
    · have h2 : takeTP r 20 = (bs [], bs [], e) := h2
      rw [h2]
      simp only []
      rw [rtakeText_f (most := 40) (by omega) (by simp) (by omega), bsome, if_neg he, rtakeFin_none]
      · rfl
      · unfold takeOne; rw [h1]; rfl
theorem rfin_eq {s r : List UInt8} {n : Nat} (h : dec 0 s = some (n, r)) (hn : n ≤ 8) : rtakeFin s [] n r = takeFin [] n r := by
  unfold rtakeFin takeFin
  cases e : takeN n r with
  | none => rfl
  | some lq =>
    obtain ⟨l, q⟩ := lq
    simp only [List.nil_append]
    obtain ⟨e1, e2, e3⟩ := takeN_some n r e
    obtain ⟨e4, _⟩ := dec_some h
    unfold putL
    by_cases c : chk l = 0
    · have hg := (chk_zero l).1 c
      rw [if_pos c, if_pos rfl]
      simp only []
      rw [bs_app, bs_toList]
      by_cases c2 : ascG none l = true
      · have hs := sortL_id ((ascG_none l).1 c2)
        rw [if_pos c2, if_pos c, if_pos]
        rw [e4, e1, lbytes_eq, hs, e2, List.append_assoc]
      · rw [if_neg c2, if_neg]
        intro h2
        rw [e4, e1, lbytes_eq, sort_len, e2, List.append_assoc] at h2
        have h3 := List.append_cancel_left h2
        obtain ⟨h4, _⟩ := lbody_inj (sort_small hg) e3 (sort_len l) h3
        refine c2 ((ascG_none l).2 ?_)
        rw [← h4]; exact sorted_strict hg.once
    · rw [if_neg c, if_neg (by exact c), if_neg c]
      by_cases c2 : ascG none l = true
      · rw [if_pos c2]
      · rw [if_neg c2]
theorem rltake_f {s : List UInt8} (hs : s.length ≤ 140737488351232) {k : Nat} (hk : 300 ≤ k) : postroomref3_Take.f k (bs s) = some (takeL s) := by
  unfold postroomref3_Take.f
  obtain ⟨k, rfl⟩ : ∃ q, k = q + 1 := ⟨k - 1, by omega⟩
  rw [rtake_f hs (by omega), bsome]
  unfold takeP
  cases e : dec 0 s with
  | none =>
    simp only []
    rw [if_neg (by decide), postroomref3_Take.j0, if_pos rfl]
    unfold takeL; rw [e]; rfl
  | some nr =>
    obtain ⟨n, r⟩ := nr
    simp only []
    rw [if_pos trivial, postroomref3_Take.j0]
    by_cases c : n > 8
    · rw [if_pos (decide_eq_true (by omega))]
      unfold takeL; rw [e]; simp only []; rw [if_pos c]; rfl
    · have hr : r.length ≤ s.length := by rw [(dec_some e).1, List.length_append]; omega
      rw [if_neg (by rw [decide_eq_true_eq]; omega), takeL_fin e c, ← rfin_eq e (by omega)]
      exact rltake_l0 s n (by omega) n k 0 [] r (by omega) rfl (by simp) (by omega) (by omega)



/-! ### turned round -/
def rot (l : List Q) (p : Nat) : List Q := l.drop p ++ l.take p
theorem rot_perm (l : List Q) (p : Nat) : (rot l p).Perm l := by
  unfold rot
  refine List.perm_append_comm.trans ?_
  rw [List.take_append_drop]
theorem rot_len (l : List Q) (p : Nat) : (rot l p).length = l.length := (rot_perm l p).length_eq
theorem rot_get {l : List Q} {p i : Nat} (hp : p < l.length) (hi : i < l.length) : (rot l p)[i]'(by rw [rot_len]; exact hi) = l[(i + p) % l.length]'(Nat.mod_lt _ (by omega)) := by
  unfold rot
  by_cases c : i < l.length - p
  · rw [List.getElem_append_left (by rw [List.length_drop]; exact c), List.getElem_drop]
    congr 1
    rw [Nat.mod_eq_of_lt (by omega)]; omega
  · rw [List.getElem_append_right (by rw [List.length_drop]; omega), List.getElem_take]
    congr 1
    rw [List.length_drop, Nat.mod_eq_sub_mod (by omega), Nat.mod_eq_of_lt (by omega)]; omega
theorem rot_step {l : List Q} {p i : Nat} (hp : p < l.length) (hi : i < l.length) : (rot l p).take i ++ [l[(i + p) % l.length]'(Nat.mod_lt _ (by omega))] = (rot l p).take (i + 1) := by
  rw [List.take_succ_eq_append_getElem (by rw [rot_len]; exact hi), rot_get hp hi]
end Go.Proofs.YthaegbiblblccaaGreatDoor.Lbl
