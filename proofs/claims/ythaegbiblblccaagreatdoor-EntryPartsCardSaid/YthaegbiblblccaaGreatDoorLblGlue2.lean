/- Chapter 3: the document's bytes, takings, values, and made labels come to the plain law. Conditions: those that each theorem names. -/
import Derived.Test.YthaegbiblblccaaGreatDoorLblGlue
import Derived.Test.YthaegbiblblccaaGreatDoorXEntP3
import Derived.Test.YthaegbiblblccaaGreatDoorXEntP1
import Derived.Test.YthaegbiblblccaaGreatDoorXEntP2
namespace Go.Proofs.YthaegbiblblccaaGreatDoor.Lbl
open Go Go.RowKit Go.Proofs.YthaegbiblblccaaGreatDoorW.PrintWords Go.Proofs.YthaegbiblblccaaGreatDoorW.PrintLast Go.Proofs.YthaegbiblblccaaGreatDoorW.PrintMore Go.Proofs.YthaegbiblblccaaGreatDoor.Num Go.Proofs.YthaegbiblblccaaGreatDoor.XEnt
set_option linter.unusedVariables false
set_option linter.unusedSimpArgs false
theorem toList_inj {a b : ByteArray} (h : a.toList = b.toList) : a = b := by rw [← bs_ls a, ← bs_ls b, ls_toList, ls_toList, h]
theorem q_ext {p q : Q} (h0 : p.f0.toList = q.f0.toList) (h1 : p.f1.toList = q.f1.toList) : p = q := by
  obtain ⟨a, b⟩ := p
  obtain ⟨c, d⟩ := q
  have e0 : a = c := toList_inj h0
  have e1 : b = d := toList_inj h1
  rw [e0, e1]
theorem same_l0 (l m : List Q) (hlen : l.length = m.length) (hb : l.length ≤ 1000000000) : ∀ (d k i : Nat), i + d = l.length → d < k → ∃ b, postroomref3_Same.l0 k l m (i : Int) = some b ∧ (b = true ↔ l.drop i = m.drop i)
  | 0, k, i, hi, hk => by
    obtain ⟨k, rfl⟩ : ∃ q, k = q + 1 := ⟨k - 1, by omega⟩
    rw [postroomref3_Same.l0, if_neg (by omega)]
    exact ⟨_, rfl, by rw [List.drop_eq_nil_of_le (by omega), List.drop_eq_nil_of_le (by omega)]; simp⟩
  | d + 1, k, i, hi, hk => by
    obtain ⟨k, rfl⟩ : ∃ q, k = q + 1 := ⟨k - 1, by omega⟩
    have h1 : i < l.length := by omega
    have h2 : i < m.length := by omega
    obtain ⟨b, hb1, hb2⟩ := same_l0 l m hlen hb d k (i + 1) (by omega) (by omega)
    rw [postroomref3_Same.l0, if_pos (by omega), if_pos (by omega), if_pos (by omega), rd_q l i h1, rd_q m i h2, List.drop_eq_getElem_cons h1, List.drop_eq_getElem_cons h2]
    by_cases c : l[i] = m[i]
    · rw [c, if_neg (by simp), w_succ (by omega)]
      exact ⟨b, hb1, hb2.trans ⟨fun h => by rw [h], fun h => (List.cons.inj h).2⟩⟩
    · rw [if_pos ?_]
      · exact ⟨false, rfl, ⟨(fun h => by cases h), fun h => absurd (List.cons.inj h).1 c⟩⟩
      · rw [Bool.or_eq_true, Bool.not_eq_true', Bool.not_eq_true', beq_eq_false_iff_ne, beq_eq_false_iff_ne]
        by_cases e : l[i].f0.toList = m[i].f0.toList
        · exact .inr (fun e2 => c (q_ext e e2))
        · exact .inl e
theorem same_f (l m : List Q) (hb : l.length ≤ 1000000000) {k : Nat} (hk : l.length < k) : ∃ b, postroomref3_Same.f k l m = some b ∧ (b = true ↔ l = m) := by
  unfold postroomref3_Same.f
  by_cases c : l.length = m.length
  · rw [if_pos (by omega)]
    exact same_l0 l m c hb l.length k 0 (by omega) hk
  · rw [if_neg (by omega)]
    exact ⟨_, rfl, by constructor <;> intro h; cases h; exact absurd (congrArg List.length h) c⟩
/-! ### what is taken -/
def takeFin (acc : List Q) (n : Nat) (r : List UInt8) : List Q × ByteArray × Int := match takeN n r with
  | some (l, q) => if ascG none (acc ++ l) = true then (if chk (acc ++ l) = 0 then (acc ++ l, bs q, 0) else bad) else bad
  | none => bad
theorem takeFin_step {acc : List Q} {d : Nat} {r r2 : List UInt8} {p : Q} (h : takeOne r = some (p, r2)) : takeFin acc (d + 1) r = takeFin (acc ++ [p]) d r2 := by
  unfold takeFin
  rw [takeN, h, bsome]
  simp only []
  cases e : takeN d r2 with
  | none => rfl
  | some lq => rw [bsome]; simp only [List.append_assoc, List.singleton_append]
theorem takeFin_none {acc : List Q} {d : Nat} {r : List UInt8} (h : takeOne r = none) : takeFin acc (d + 1) r = bad := by
  unfold takeFin
  rw [takeN, h]; rfl
theorem takeFin_bad {acc : List Q} {d : Nat} {r : List UInt8} (h : ascG none acc ≠ true) : takeFin acc d r = bad := by
  unfold takeFin
  cases e : takeN d r with
  | none => rfl
  | some lq =>
    obtain ⟨l, q⟩ := lq
    simp only []
    rw [if_neg]
    intro h2
    exact h ((ascG_none _).2 (List.Pairwise.sublist (List.sublist_append_left _ _) ((ascG_none _).1 h2)))
theorem strict_snoc {acc : List Q} {p : Q} (h : Strict acc) (hn : 0 < acc.length) : Strict (acc ++ [p]) ↔ nm acc[acc.length - 1] < nm p := by
  unfold Strict
  rw [List.pairwise_append]
  constructor
  · rintro ⟨_, _, h3⟩
    exact h3 _ (List.getElem_mem _) p (by simp)
  · intro h3
    refine ⟨h, by simp, ?_⟩
    intro a ha b hb
    obtain rfl := List.mem_singleton.1 hb
    obtain ⟨i, hi, rfl⟩ := List.getElem_of_mem ha
    rcases Nat.lt_or_ge i (acc.length - 1) with h4 | h4
    · unfold Strict at h
      rw [List.pairwise_iff_getElem] at h
      exact List.lt_trans (h i (acc.length - 1) hi (by omega) h4) h3
    · have : i = acc.length - 1 := by omega
      subst this; exact h3
theorem txt_len {s : List UInt8} {m : Nat} {a : ByteArray} {r : List UInt8} (h : txt s m = some (a, r)) : r.length ≤ s.length := by
  rw [(txt_some h).1, List.length_append]; omega
theorem ltake_l0 (n : Nat) (hn : n ≤ 8) : ∀ (d k i : Nat) (acc : List Q) (r : List UInt8), i + d = n → acc.length = i → ascG none acc = true → r.length ≤ 140737488351232 → d + 50 < k → label_Take.l0 k (bs r) acc (n : Int) (i : Int) = some (takeFin acc d r)
  | 0, k, i, acc, r, hi, hl, ha, hr, hk => by
    obtain ⟨k, rfl⟩ : ∃ q, k = q + 1 := ⟨k - 1, by omega⟩
    rw [label_Take.l0, if_neg (by omega), check_f acc (by omega), bsome]
    unfold takeFin
    show _ = some (if ascG none (acc ++ []) = true then (if chk (acc ++ []) = 0 then (acc ++ [], bs r, 0) else bad) else bad)
    rw [List.append_nil, if_pos ha]
    by_cases c : chk acc = 0
    · rw [if_pos c, if_pos c]
    · rw [if_neg c, if_neg c]; rfl
  | d + 1, k, i, acc, r, hi, hl, ha, hr, hk => by
    obtain ⟨k, rfl⟩ : ∃ q, k = q + 1 := ⟨k - 1, by omega⟩
    rw [label_Take.l0, if_pos (by omega), takeText_f (most := 20) (by omega) hr (by omega), bsome]
    rcases takeTP_txt r 20 with ⟨a, r1, h1, h2⟩ | ⟨h1, e, he, h2⟩
    · have h2 : takeTP r 20 = (a, bs r1, 0) := h2
      have hr1 := txt_len h1
      rw [h2, if_pos rfl, takeText_f (most := 40) (by omega) (by omega) (by omega), bsome]
      rcases takeTP_txt r1 40 with ⟨b, r2, h3, h4⟩ | ⟨h3, e, he, h4⟩
      · have h4 : takeTP r1 40 = (b, bs r2, 0) := h4
        have hr2 := txt_len h3
        have ho : takeOne r = some (⟨a, b⟩, r2) := by unfold takeOne; rw [h1, bsome]; simp only []; rw [h3, bsome]
        rw [h4, if_pos rfl, takeFin_step ho]
        have next : ascG none (acc ++ [⟨a, b⟩]) = true → label_Take.l0 k (bs r2) (acc ++ [⟨a, b⟩]) (n : Int) (IntKind.u64.wrap ((i : Int) + 1)) = some (takeFin (acc ++ [⟨a, b⟩]) d r2) := fun h => by
          rw [u_succ (by omega)]
          exact ltake_l0 n hn d k (i + 1) _ r2 (by omega) (by rw [List.length_append, hl]; rfl) h (by omega) (by omega)
        by_cases c : 0 < acc.length
        · have hw : wrap64 ((acc.length : Int) - 1) = ((acc.length - 1 : Nat) : Int) := by rw [w64_id (by omega) (by omega)]; omega
          rw [if_pos (by omega), hw, if_pos (by omega), if_pos (by omega), rd_q acc (acc.length - 1) (by omega)]
          by_cases c2 : Op.bytesLess acc[acc.length - 1].f0.toList a.toList = true
          · rw [if_pos c2, if_pos (by omega)]
            exact next ((ascG_none _).2 ((strict_snoc ((ascG_none _).1 ha) c).2 ((less_iff _ _).1 c2)))
          · rw [if_neg c2, takeFin_bad]
            · rfl
            · intro h
              exact c2 ((less_iff _ _).2 ((strict_snoc ((ascG_none _).1 ha) c).1 ((ascG_none _).1 h)))
        · have hnil : acc = [] := List.eq_nil_of_length_eq_zero (by omega)
          rw [if_neg (by omega), if_pos (by omega)]
          refine next ?_
          rw [hnil]; rfl
      · have h4 : takeTP r1 40 = (bs [], bs [], e) := h4
        rw [h4, if_neg he, takeFin_none]
        · rfl
        · unfold takeOne; rw [h1, bsome]; simp only []; rw [h3]; rfl
    · have h2 : takeTP r 20 = (bs [], bs [], e) := h2
      rw [h2, if_neg he, takeFin_none]
      · rfl
      · unfold takeOne; rw [h1]; rfl
theorem takeL_fin {s r : List UInt8} {n : Nat} (h : dec 0 s = some (n, r)) (hn : ¬ n > 8) : takeL s = takeFin [] n r := by
  unfold takeL takeFin
  rw [h]
  simp only [List.nil_append]
  rw [if_neg hn]
  cases takeN n r with
  | none => rfl
  | some lq => rfl
theorem ltake_f {s : List UInt8} (hs : s.length ≤ 140737488351232) {k : Nat} (hk : 70 ≤ k) : label_Take.f k (bs s) = some (takeL s) := by
  unfold label_Take.f
  obtain ⟨k, rfl⟩ : ∃ q, k = q + 1 := ⟨k - 1, by omega⟩
  rw [take_f hs (by omega), bsome]
  unfold takeP
  cases e : dec 0 s with
  | none =>
    simp only []
    rw [if_neg (by decide), label_Take.j0, if_pos rfl]
    unfold takeL; rw [e]; rfl
  | some nr =>
    obtain ⟨n, r⟩ := nr
    simp only []
    rw [if_pos trivial, label_Take.j0]
    by_cases c : n > 8
    · rw [if_pos (decide_eq_true (by omega))]
      unfold takeL; rw [e]; simp only []; rw [if_pos c]; rfl
    · have hr : r.length ≤ s.length := by rw [(dec_some e).1, List.length_append]; omega
      rw [if_neg (by rw [decide_eq_true_eq]; omega), takeL_fin e c]
      exact ltake_l0 n (by omega) n k 0 [] r (by omega) rfl rfl (by omega) (by omega)



/-! ### made labels -/
def pickN (c : Int) (n : Nat) : Nat := (if c < 0 then (-(c + 1)).toNat else c.toNat) % n
theorem pickN_lt (c : Int) {n : Nat} (h : 0 < n) : pickN c n < n := Nat.mod_lt _ h
theorem pick_f {c : Int} {n : Nat} (hc : -9223372036854775808 ≤ c ∧ c < 9223372036854775808) (hn : 0 < n) : postroomlaw5_pick.f c (n : Int) = some (pickN c n : Int) := by
  unfold postroomlaw5_pick.f pickN
  by_cases h : c < 0
  · rw [if_pos h, if_pos h, if_neg (by omega), w64_id (x := c + 1) (by omega) (by omega), w64_id (by omega) (by omega)]
    obtain ⟨m, hm⟩ : ∃ m : Nat, -(c + 1) = (m : Int) := ⟨(-(c + 1)).toNat, by omega⟩
    rw [hm, tmod_nat, Int.toNat_natCast]
  · rw [if_neg h, if_neg h, if_neg (by omega)]
    obtain ⟨m, hm⟩ : ∃ m : Nat, c = (m : Int) := ⟨c.toNat, by omega⟩
    rw [hm, tmod_nat, Int.toNat_natCast]
def names8 : List (List UInt8) := [[97], [98], [106, 111, 98], [122, 111, 110, 101], [95, 120], [99, 49], [104, 111, 115, 116], [110]]
def nameB : List ByteArray := [(⟨#[97]⟩ : ByteArray), (⟨#[98]⟩ : ByteArray), (⟨#[106, 111, 98]⟩ : ByteArray), (⟨#[122, 111, 110, 101]⟩ : ByteArray), (⟨#[95, 120]⟩ : ByteArray), (⟨#[99, 49]⟩ : ByteArray), (⟨#[104, 111, 115, 116]⟩ : ByteArray), (⟨#[110]⟩ : ByteArray)]
theorem nameB_eq : nameB = names8.map bs := rfl
theorem names_ok : ∀ n ∈ names8, nameOk n = true := by decide
theorem nameB_at (j : Nat) (h : j < 8) : (rdOf ByteArray.empty nameB (j : Int)).toList ∈ names8 := by
  have h1 : rdOf ByteArray.empty nameB (j : Int) = bs (names8[j]'h) := by
    unfold rdOf
    rw [Int.toNat_natCast, nameB_eq, List.getD_eq_getElem?_getD, List.getElem?_map, List.getElem?_eq_getElem h]; rfl
  rw [h1, bs_toList]
  exact List.getElem_mem _
structure Made (l : List Q) (i : Nat) : Prop where
  len : l.length ≤ i
  names : ∀ p ∈ l, nm p ∈ names8
  short : ∀ p ∈ l, p.f1.size ≤ 5
  once : l.Pairwise (fun a b => nm a ≠ nm b)
theorem Made.good {l : List Q} (h : Made l 8) : Good l := ⟨h.len, fun p hp => ⟨names_ok _ (h.names p hp), by have := h.short p hp; omega⟩, h.once⟩
theorem Made.mono {l : List Q} {i j : Nat} (h : Made l i) (hij : i ≤ j) : Made l j := ⟨Nat.le_trans h.len hij, h.names, h.short, h.once⟩
theorem Made.snoc {l : List Q} {i : Nat} (h : Made l i) {p : Q} (h1 : nm p ∈ names8) (h2 : p.f1.size ≤ 5) (h3 : ∀ q ∈ l, nm q ≠ nm p) : Made (l ++ [p]) (i + 1) where
  len := by have := h.len; rw [List.length_append, List.length_singleton]; omega
  names q hq := by
    rcases List.mem_append.1 hq with hq | hq
    · exact h.names q hq
    · obtain rfl := List.mem_singleton.1 hq; exact h1
  short q hq := by
    rcases List.mem_append.1 hq with hq | hq
    · exact h.short q hq
    · obtain rfl := List.mem_singleton.1 hq; exact h2
  once := by
    rw [List.pairwise_append]
    refine ⟨h.once, by simp, ?_⟩
    intro a ha b hb
    obtain rfl := List.mem_singleton.1 hb
    exact h3 a ha
theorem labels_l1 (n : List Int) (hn : ∀ x ∈ n, (Lit.int .i64 x).wf = true) (acc : List Q) (i : Nat) (hi : i < n.length) (ha : acc.length ≤ 8) (x6 : ByteArray) : ∀ (d k j : Nat) (there : Bool), j + d = acc.length → d < k →
    ∃ v : ByteArray, v.size ≤ 5 ∧ postroomlaw5_labelsOf.l1 k n nameB acc (i : Int) x6 there (j : Int) = if there = true ∨ ∃ p ∈ acc.drop j, nm p = x6.toList then postroomlaw5_labelsOf.l0 (k - d - 1) n nameB acc (wrap64 ((i : Int) + 1)) else postroomlaw5_labelsOf.l0 (k - d - 1) n nameB (acc ++ [⟨x6, v⟩]) (wrap64 ((i : Int) + 1))
  | 0, k, j, there, hj, hk => by
    obtain ⟨k, rfl⟩ : ∃ q, k = q + 1 := ⟨k - 1, by omega⟩
    rw [postroomlaw5_labelsOf.l1, if_neg (by omega), List.drop_eq_nil_of_le (by omega)]
    obtain ⟨m, hm⟩ : ∃ m : Int, wrap64 (Int.tdiv (rd n (i : Int)) 8) = m := ⟨_, rfl⟩
    have hmw : -9223372036854775808 ≤ m ∧ m < 9223372036854775808 := by rw [← hm]; unfold wrap64; omega
    have hp := pick_f (n := 5) hmw (by decide)
    rw [show ((5 : Nat) : Int) = 5 from rfl] at hp
    have hlt := pickN_lt m (n := 5) (by decide)
    generalize pickN m 5 = q at hp hlt
    refine ⟨(⟨#[118, 119, 120, 121, 122]⟩ : ByteArray).extract q 5, ?_, ?_⟩
    · rw [ByteArray.size_extract]; omega
    · cases there with
      | true => rw [if_pos rfl, if_pos (.inl rfl)]; rfl
      | false =>
        rw [if_neg (by decide), if_pos (by omega), if_pos (by omega), hm, hp, bsome, if_pos (by omega), if_pos (by omega), if_pos (by decide), if_pos (by omega), if_neg (by simp), Int.toNat_natCast]
        rfl
  | d + 1, k, j, there, hj, hk => by
    obtain ⟨k, rfl⟩ : ∃ q, k = q + 1 := ⟨k - 1, by omega⟩
    have hjl : j < acc.length := by omega
    have key : ∀ t : Bool, ∃ v : ByteArray, v.size ≤ 5 ∧ postroomlaw5_labelsOf.l1 k n nameB acc (i : Int) x6 t (wrap64 ((j : Int) + 1)) = if t = true ∨ ∃ p ∈ acc.drop (j + 1), nm p = x6.toList then postroomlaw5_labelsOf.l0 (k + 1 - (d + 1) - 1) n nameB acc (wrap64 ((i : Int) + 1)) else postroomlaw5_labelsOf.l0 (k + 1 - (d + 1) - 1) n nameB (acc ++ [⟨x6, v⟩]) (wrap64 ((i : Int) + 1)) := fun t => by
      have ih := labels_l1 n hn acc i hi ha x6 d k (j + 1) t (by omega) (by omega)
      rw [w_succ (by omega), show k + 1 - (d + 1) - 1 = k - d - 1 by omega]
      exact ih
    rw [postroomlaw5_labelsOf.l1, if_pos (by omega)]
    cases there with
    | true =>
      obtain ⟨v, h1, h2⟩ := key true
      refine ⟨v, h1, ?_⟩
      rw [if_pos rfl, h2, if_pos (.inl rfl), if_pos (.inl rfl)]
    | false =>
      obtain ⟨v, h1, h2⟩ := key (acc[j].f0.toList == x6.toList)
      refine ⟨v, h1, ?_⟩
      rw [if_neg (by decide), if_pos (by omega), rd_q acc j hjl, h2, List.drop_eq_getElem_cons hjl]
      by_cases c : acc[j].f0.toList = x6.toList
      · rw [if_pos (.inl (by simpa using c)), if_pos (.inr ⟨acc[j], List.mem_cons_self, c⟩)]
      · by_cases c2 : ∃ p ∈ acc.drop (j + 1), nm p = x6.toList
        · obtain ⟨p, hp, e⟩ := c2
          rw [if_pos (.inr ⟨p, hp, e⟩), if_pos (.inr ⟨p, List.mem_cons_of_mem _ hp, e⟩)]
        · rw [if_neg, if_neg]
          · rintro (h | ⟨p, hp, e⟩)
            · cases h
            · rcases List.mem_cons.1 hp with rfl | hp
              · exact c e
              · exact c2 ⟨p, hp, e⟩
          · rintro (h | h)
            · exact c (by simpa using h)
            · exact c2 h
theorem labels_l0 (n : List Int) (hn : ∀ x ∈ n, (Lit.int .i64 x).wf = true) : ∀ (d k i : Nat) (acc : List Q), i + d = 8 → Made acc i → 12 * d + 3 ≤ k → ∃ l, postroomlaw5_labelsOf.l0 k n nameB acc (i : Int) = some l ∧ Made l 8
  | 0, k, i, acc, hi, ha, hk => by
    obtain ⟨k, rfl⟩ : ∃ q, k = q + 2 := ⟨k - 2, by omega⟩
    have hi8 : i = 8 := by omega
    subst hi8
    rw [postroomlaw5_labelsOf.l0]
    refine ⟨acc, ?_, ha⟩
    by_cases c : ((8 : Nat) : Int) < (n.length : Int)
    · rw [if_pos c, postroomlaw5_labelsOf.j1, if_neg (by decide)]
    · rw [if_neg c, postroomlaw5_labelsOf.j1, if_neg (by decide)]
  | d + 1, k, i, acc, hi, ha, hk => by
    obtain ⟨k, rfl⟩ : ∃ q, k = q + 2 := ⟨k - 2, by omega⟩
    rw [postroomlaw5_labelsOf.l0]
    by_cases c : (i : Int) < (n.length : Int)
    · have hil : i < n.length := by omega
      have hrd : rd n (i : Int) = n[i] := by
        unfold rd
        rw [Int.toNat_natCast, List.getD_eq_getElem?_getD, List.getElem?_eq_getElem hil]; rfl
      have hw := wf_i64 (hn n[i] (List.getElem_mem _))
      have hp := pick_f (n := 8) hw (by decide)
      rw [show ((8 : Nat) : Int) = 8 from rfl] at hp
      have hlt := pickN_lt n[i] (n := 8) (by decide)
      rw [if_pos c, postroomlaw5_labelsOf.j1, if_pos (decide_eq_true (by omega)), if_pos (by omega), if_pos c, hrd, hp, bsome, if_pos (by omega), if_pos (by rw [show nameB.length = 8 from rfl]; omega)]
      have hl8 := ha.len
      obtain ⟨v, h1, h2⟩ := labels_l1 n hn acc i hil (by omega) (rdOf ByteArray.empty nameB (pickN n[i] 8 : Int)) acc.length k 0 false (by omega) (by omega)
      rw [show ((0 : Nat) : Int) = 0 from rfl] at h2
      rw [h2, w_succ (by omega), List.drop_zero]
      by_cases c2 : false = true ∨ ∃ p ∈ acc, nm p = (rdOf ByteArray.empty nameB (pickN n[i] 8 : Int)).toList
      · rw [if_pos c2]
        exact labels_l0 n hn d _ (i + 1) acc (by omega) (ha.mono (by omega)) (by omega)
      · rw [if_neg c2]
        refine labels_l0 n hn d _ (i + 1) _ (by omega) (ha.snoc ?_ h1 ?_) (by omega)
        · exact nameB_at _ hlt
        · intro q hq e
          exact c2 (.inr ⟨q, hq, e⟩)
    · rw [if_neg c, postroomlaw5_labelsOf.j1, if_neg (by decide)]
      exact ⟨acc, rfl, ha.mono (by omega)⟩
theorem labels_f {n : List Int} (hn : ∀ x ∈ n, (Lit.int .i64 x).wf = true) {k : Nat} (hk : 99 ≤ k) : ∃ l, postroomlaw5_labelsOf.f k n = some l ∧ Made l 8 := by
  unfold postroomlaw5_labelsOf.f
  exact labels_l0 n hn 8 k 0 [] rfl ⟨by simp, by simp, by simp, List.Pairwise.nil⟩ hk

/-! ### turned round -/
end Go.Proofs.YthaegbiblblccaaGreatDoor.Lbl
