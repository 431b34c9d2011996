/- The pure statement NumRows: texts and numbers, one behind the other, are taken again in their order. Conditions: none. -/
import Derived.Test.YtipeojncbkdllaaNumYGlue
import Derived.Test.YtipeojncbkdllaaYNumx1
import Derived.Test.YtipeojncbkdllaaYNumx2
namespace Go.Proofs.Ytipeojncbkdllaa.Num
open Go.RowKit Go.Proofs.YtipeojncbkdllaaW.PrintWords Go.Proofs.YtipeojncbkdllaaW.PrintMore Go.Proofs.Ytipeojncbkdllaa.YNum

theorem yenc300 : enc 300 = [172, 2] := by rw [enc_big (by decide), enc_small (by decide)]; rfl
theorem yenc1 : enc 1 = [1] := enc_small (by decide)
theorem yenc2 : enc 2 = [2] := enc_small (by decide)
theorem yshown_f {k : Nat} (hk : 10 ≤ k) : postroomlaw1_shown.f k = some true := by
  unfold postroomlaw1_shown.f
  rw [show (300 : Int) = ((300 : Nat) : Int) from rfl, put_f (by decide) hk]
  simp only [bsome]
  rw [bs_toList, if_pos yenc300, putInt_f (by decide) hk]
  simp only [bsome]
  rw [bs_toList, if_pos (show enc (zig (-1)) = [1] from yenc1), putInt_f (by decide) hk]
  simp only [bsome]
  rw [bs_toList, if_pos (show enc (zig 1) = [2] from yenc2), show (⟨#[97]⟩ : ByteArray) = bs [97] from rfl, putText_f (by decide) hk]
  simp only [bsome]
  rw [bs_toList, show encT [97] = [1, 97] by unfold encT; rw [show [(97 : UInt8)].length = 1 from rfl, yenc1]; rfl]
  rfl
def ints (N : List Nat) : List Int := N.map fun (n : Nat) => (n : Int)
theorem ints_len (N : List Nat) : (ints N).length = N.length := List.length_map _
theorem rdOf_bs (T : List (List UInt8)) (i : Nat) (h : i < T.length) : rdOf ByteArray.empty (T.map bs) (i : Int) = bs T[i] := by
  unfold rdOf
  rw [Int.toNat_natCast, List.getD_eq_getElem?_getD, List.getElem?_map, List.getElem?_eq_getElem h]
  rfl
theorem rd_nat (N : List Nat) (i : Nat) (h : i < N.length) : rd (ints N) (i : Int) = ((N[i] : Nat) : Int) := by
  unfold rd ints
  rw [Int.toNat_natCast, List.getD_eq_getElem?_getD, List.getElem?_map, List.getElem?_eq_getElem h]
  rfl
theorem encT_len {t : List UInt8} (h : t.length ≤ 200) : (encT t).length ≤ 300 := by
  have := enc_len10 (n := t.length) (by omega)
  unfold encT; rw [List.length_append]; omega
theorem w_succ {i : Nat} (h : i < 1000) : wrap64 ((i : Int) + 1) = ((i + 1 : Nat) : Int) := by rw [w64_id (by omega) (by omega)]; omega
theorem rows_l0 (T : List (List UInt8)) (M : List Int) (hT : T.length ≤ 20) (hs : ∀ t ∈ T, t.length ≤ 9223372036854775807) : ∀ (d k i : Nat) (acc : List UInt8), i + d = T.length → acc.length ≤ 300 * i → d + 100 ≤ k →
    postroomlaw1_NumRows.l0 k (T.map bs) M (bs acc) (i : Int) = some true ∨
    ((∀ t ∈ T.drop i, t.length ≤ 200) ∧ ∃ k', k ≤ k' + d + 1 ∧ postroomlaw1_NumRows.l0 k (T.map bs) M (bs acc) (i : Int) = postroomlaw1_NumRows.l1 k' (T.map bs) M (bs (acc ++ (T.drop i).flatMap encT)) 0)
  | d, k, i, acc, hi, ha, hk => by
    obtain ⟨k, rfl⟩ : ∃ m, k = m + 1 := ⟨k - 1, by omega⟩
    simp only [postroomlaw1_NumRows.l0]
    rw [List.length_map]
    match d, hi, hk with
    | 0, hi, _ =>
      refine .inr ⟨by rw [List.drop_eq_nil_of_le (by omega)]; simp, k, by omega, ?_⟩
      rw [if_neg (by omega), List.drop_eq_nil_of_le (by omega)]; simp
    | d + 1, hi, hk =>
      have hlt : i < T.length := by omega
      rw [if_pos (by omega), if_pos (by omega), rdOf_bs T i hlt, bs_size]
      have hd : T.drop i = T[i] :: T.drop (i + 1) := List.drop_eq_getElem_cons hlt
      have hb := hs T[i] (List.getElem_mem hlt)
      by_cases h2 : T[i].length ≤ 200
      · have hl := encT_len h2
        rw [if_neg (by omega), putText_f (by omega) (by omega), bsome, bs_size, bs_size, if_pos (by omega), bs_app, w_succ (by omega)]
        rcases rows_l0 T M hT hs d k (i + 1) (acc ++ encT T[i]) (by omega) (by rw [List.length_append]; omega) (by omega) with h3 | ⟨h3, k', h4, h5⟩
        · exact .inl h3
        · refine .inr ⟨?_, k', by omega, ?_⟩
          · rw [hd]; intro t ht
            rcases List.mem_cons.1 ht with rfl | ht
            · exact h2
            · exact h3 t ht
          · rw [h5, hd, List.flatMap_cons, List.append_assoc]
      · rw [if_pos (by omega)]; exact .inl rfl
theorem rows_l1 (X : List ByteArray) (N : List Nat) (hN : N.length ≤ 20) (hw : ∀ n ∈ N, n < 18446744073709551616) : ∀ (d k i : Nat) (acc : List UInt8), i + d = N.length → acc.length ≤ 6000 + 10 * i → d + 60 ≤ k →
    ∃ k', k ≤ k' + d + 1 ∧ postroomlaw1_NumRows.l1 k X (ints N) (bs acc) (i : Int) = postroomlaw1_NumRows.l2 k' X (ints N) (bs (acc ++ (N.drop i).flatMap enc)) 0
  | d, k, i, acc, hi, ha, hk => by
    obtain ⟨k, rfl⟩ : ∃ m, k = m + 1 := ⟨k - 1, by omega⟩
    simp only [postroomlaw1_NumRows.l1]
    rw [ints_len]
    match d, hi, hk with
    | 0, hi, _ => exact ⟨k, by omega, by rw [if_neg (by omega), List.drop_eq_nil_of_le (by omega)]; simp⟩
    | d + 1, hi, hk =>
      have hlt : i < N.length := by omega
      have hd : N.drop i = N[i] :: N.drop (i + 1) := List.drop_eq_getElem_cons hlt
      have hn := hw N[i] (List.getElem_mem hlt)
      have hl := enc_len10 hn
      obtain ⟨k', h4, h5⟩ := rows_l1 X N hN hw d k (i + 1) (acc ++ enc N[i]) (by omega) (by rw [List.length_append]; omega) (by omega)
      refine ⟨k', by omega, ?_⟩
      rw [if_pos (by omega), if_pos (by omega), rd_nat N i hlt, put_f hn (by omega), bsome, bs_size, bs_size, if_pos (by omega), bs_app, w_succ (by omega), h5, hd, List.flatMap_cons, List.append_assoc]
theorem takeTP_text (t rest : List UInt8) (h : t.length ≤ 200) : takeTP (encT t ++ rest) 200 = (bs t, bs rest, 0) := by
  unfold takeTP encT
  rw [List.append_assoc, dec_put (by omega)]
  simp only [List.length_append]
  rw [if_neg (by unfold mx; split <;> omega), if_neg (show ¬ t.length > t.length + rest.length by omega), List.take_left', List.drop_left'] <;> rfl
theorem rows_l2 (T : List (List UInt8)) (M : List Int) (hT : T.length ≤ 20) (hs : ∀ t ∈ T, t.length ≤ 200) (tail : List UInt8) (ht : tail.length ≤ 200) : ∀ (d k i : Nat), i + d = T.length → ((T.drop i).flatMap encT).length ≤ 300 * d → d + 60 ≤ k →
    ∃ k', k ≤ k' + d + 1 ∧ postroomlaw1_NumRows.l2 k (T.map bs) M (bs ((T.drop i).flatMap encT ++ tail)) (i : Int) = postroomlaw1_NumRows.l3 k' M (bs tail) 0
  | d, k, i, hi, hl, hk => by
    obtain ⟨k, rfl⟩ : ∃ m, k = m + 1 := ⟨k - 1, by omega⟩
    simp only [postroomlaw1_NumRows.l2]
    rw [List.length_map]
    match d, hi, hl, hk with
    | 0, hi, _, _ => exact ⟨k, by omega, by rw [if_neg (by omega), List.drop_eq_nil_of_le (by omega)]; simp⟩
    | d + 1, hi, hl, hk =>
      have hlt : i < T.length := by omega
      have hd : T.drop i = T[i] :: T.drop (i + 1) := List.drop_eq_getElem_cons hlt
      have h2 := hs T[i] (List.getElem_mem hlt)
      have h3 : ((T.drop (i + 1)).flatMap encT).length ≤ 300 * d := by
        have e : ∀ L : List (List UInt8), (∀ t ∈ L, t.length ≤ 200) → (L.flatMap encT).length ≤ 300 * L.length := by
          intro L
          induction L with
          | nil => intro _; simp
          | cons a L ih =>
            intro h
            have h1 := encT_len (h a (by simp))
            have h2 := ih (fun t ht => h t (by simp [ht]))
            rw [List.flatMap_cons, List.length_append, List.length_cons]
            omega
        have := e (T.drop (i + 1)) (fun t ht => hs t (List.mem_of_mem_drop ht))
        rw [List.length_drop] at this
        omega
      obtain ⟨k', h4, h5⟩ := rows_l2 T M hT hs tail ht d k (i + 1) (by omega) h3 (by omega)
      refine ⟨k', by omega, ?_⟩
      rw [hd, List.flatMap_cons, List.append_assoc, if_pos (by omega), takeText_f (by omega) (by rw [hd, List.flatMap_cons, List.length_append] at hl; rw [List.length_append, List.length_append]; omega) (by omega), takeTP_text _ _ h2, bsome]
      simp only
      rw [if_pos trivial, if_pos (by omega), rdOf_bs T i hlt, if_pos rfl, w_succ (by omega), h5]
theorem rows_l3 (N : List Nat) (hN : N.length ≤ 20) (hw : ∀ n ∈ N, n < 18446744073709551616) : ∀ (d k i : Nat), i + d = N.length → ((N.drop i).flatMap enc).length ≤ 10 * d → d + 60 ≤ k →
    postroomlaw1_NumRows.l3 k (ints N) (bs ((N.drop i).flatMap enc)) (i : Int) = some true
  | d, k, i, hi, hl, hk => by
    obtain ⟨k, rfl⟩ : ∃ m, k = m + 1 := ⟨k - 1, by omega⟩
    simp only [postroomlaw1_NumRows.l3]
    rw [ints_len]
    match d, hi, hl, hk with
    | 0, hi, _, _ => rw [if_neg (by omega), List.drop_eq_nil_of_le (by omega), bs_toList]; rfl
    | d + 1, hi, hl, hk =>
      have hlt : i < N.length := by omega
      have hd : N.drop i = N[i] :: N.drop (i + 1) := List.drop_eq_getElem_cons hlt
      have hn := hw N[i] (List.getElem_mem hlt)
      have e : ∀ L : List Nat, (∀ n ∈ L, n < 18446744073709551616) → (L.flatMap enc).length ≤ 10 * L.length := by
        intro L
        induction L with
        | nil => intro _; simp
        | cons a L ih =>
          intro h
          have h1 := enc_len10 (h a (by simp))
          have h2 := ih (fun t ht => h t (by simp [ht]))
          rw [List.flatMap_cons, List.length_append, List.length_cons]
          omega
      have h3 := e (N.drop (i + 1)) (fun t ht => hw t (List.mem_of_mem_drop ht))
      rw [List.length_drop] at h3
      have h5 := rows_l3 N hN hw d k (i + 1) (by omega) (by omega) (by omega)
      have hl2 := hl
      rw [hd, List.flatMap_cons, List.length_append] at hl2
      rw [hd, List.flatMap_cons, if_pos (by omega), take_f (by rw [List.length_append]; omega) (by omega), takeP_put hn, bsome]
      simp only
      rw [if_pos trivial, if_pos (by omega), rd_nat N i hlt, if_pos rfl, w_succ (by omega), h5]
theorem rows (l0 : List ByteArray) (l1 : List Int) (hs : ∀ x ∈ l0, x.size ≤ maxLen) (hw : ∀ x ∈ l1, (Lit.int .u64 x).wf = true) : ∃ k, postroomlaw1_NumRows.f k l0 l1 = some true := by
  obtain ⟨T, rfl⟩ : ∃ T : List (List UInt8), l0 = T.map bs := ⟨l0.map ls, by rw [List.map_map]; exact (List.map_id _).symm⟩
  obtain ⟨N, rfl, hN⟩ : ∃ N : List Nat, l1 = ints N ∧ ∀ n ∈ N, n < 18446744073709551616 := by
    refine ⟨l1.map Int.toNat, ?_, fun n hn => ?_⟩
    · unfold ints
      rw [List.map_map]
      conv => lhs; rw [← List.map_id l1]
      exact List.map_congr_left fun x hx => by have := wf_u64 (hw x hx); simp only [id, Function.comp]; omega
    · obtain ⟨x, hx, rfl⟩ := List.mem_map.1 hn
      have := wf_u64 (hw x hx); omega
  have hT : ∀ t ∈ T, t.length ≤ 9223372036854775807 := fun t ht => by
    have := hs (bs t) (List.mem_map_of_mem ht)
    unfold maxLen at this
    rw [bs_size] at this
    omega
  obtain ⟨K, hK⟩ : ∃ K : Nat, 1000 ≤ K := ⟨1000, by omega⟩
  refine ⟨K + 1, ?_⟩
  unfold postroomlaw1_NumRows.f
  rw [yshown_f (by omega)]
  simp only [bsome]
  rw [if_pos trivial, List.length_map, ints_len]
  by_cases h1 : T.length ≤ 20
  · rw [if_neg (by omega)]
    by_cases h2 : N.length ≤ 20
    · rw [decide_eq_false (by omega)]
      simp only [postroomlaw1_NumRows.j0]
      rw [if_neg (by decide), bs_nil]
      rcases rows_l0 T (ints N) h1 hT T.length K 0 [] (by omega) (by simp) (by omega) with h3 | ⟨h3, k1, h4, h5⟩
      · exact h3
      · simp only [Int.natCast_zero, List.drop_zero, List.nil_append] at h3 h5
        have e1 : (T.flatMap encT).length ≤ 300 * T.length := by
          have e : ∀ L : List (List UInt8), (∀ t ∈ L, t.length ≤ 200) → (L.flatMap encT).length ≤ 300 * L.length := by
            intro L
            induction L with
            | nil => intro _; simp
            | cons a L ih =>
              intro h
              have h1 := encT_len (h a (by simp))
              have h2 := ih (fun t ht => h t (by simp [ht]))
              rw [List.flatMap_cons, List.length_append, List.length_cons]
              omega
          exact e T h3
        have e2 : (N.flatMap enc).length ≤ 10 * N.length := by
          have e : ∀ L : List Nat, (∀ n ∈ L, n < 18446744073709551616) → (L.flatMap enc).length ≤ 10 * L.length := by
            intro L
            induction L with
            | nil => intro _; simp
            | cons a L ih =>
              intro h
              have h1 := enc_len10 (h a (by simp))
              have h2 := ih (fun t ht => h t (by simp [ht]))
              rw [List.flatMap_cons, List.length_append, List.length_cons]
              omega
          exact e N hN
        obtain ⟨k2, h6, h7⟩ := rows_l1 (T.map bs) N h2 hN N.length k1 0 (T.flatMap encT) (by omega) (by omega) (by omega)
        simp only [Int.natCast_zero, List.drop_zero] at h7
        obtain ⟨k3, h8, h9⟩ := rows_l2 T (ints N) h1 h3 (N.flatMap enc) (by omega) T.length k2 0 (by omega) (by rw [List.drop_zero]; exact e1) (by omega)
        simp only [Int.natCast_zero, List.drop_zero] at h9
        have h10 := rows_l3 N h2 hN N.length k3 0 (by omega) (by rw [List.drop_zero]; exact e2) (by omega)
        simp only [Int.natCast_zero, List.drop_zero] at h10
        rw [h5, h7, h9, h10]
    · rw [decide_eq_true (by omega)]
      simp only [postroomlaw1_NumRows.j0]
      rw [if_pos trivial]
  · rw [if_pos (by omega)]
    simp only [postroomlaw1_NumRows.j0]
    rw [if_pos trivial]
end Go.Proofs.Ytipeojncbkdllaa.Num
