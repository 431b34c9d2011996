/- Chapter 11's plain law: what the document's taking comes to; and the law's own small functions. Conditions: those that each theorem names. -/
import Derived.Test.YtmbigoeldobaiaaDoorMrkLaw
import Derived.Test.YtmbigoeldobaiaaDoorXMrkP1
import Derived.Test.YtmbigoeldobaiaaDoorXMrkP4
import Derived.Test.YtmbigoeldobaiaaDoorXMrkP3
namespace Go.Proofs.YtmbigoeldobaiaaDoor.Mrk
open Go.Proofs.YtmbigoeldobaiaaDoorW.PrintWords hiding encs
open Go.RowKit Go.Proofs.YtmbigoeldobaiaaDoorW.PrintLast Go.Proofs.YtmbigoeldobaiaaDoorW.PrintMore Go.Proofs.YtmbigoeldobaiaaDoor.Num Go.Proofs.YtmbigoeldobaiaaDoor.XMrk Go.Proofs.YtmbigoeldobaiaaDoor.Nam
set_option linter.unusedVariables false
set_option linter.unusedSimpArgs false
/-! ### 6. the document's bytes -/
theorem rnum_f {x : Int} (h : U x) : Ev (fun k => postroomref1_Put.f k x) (bs (enc x.toNat)) :=
 Ev.from 10 fun k hk => by have := rput_f (n := x.toNat) (k := k) (by unfold U at h; omega) hk; rwa [Int.toNat_of_nonneg h.1] at this
theorem rp_l1 (v : ByteArray × Int) (ds : List R) (first next i : Int) (d : D) (hl : d.f3.length ≤ 1000000) (hu : ∀ a ∈ d.f3, U a) : ∀ (m j : Nat) (acc : List UInt8) (last : Int), j + m = d.f3.length → acc.length + 10 * m ≤ 1000000000000 →
  Ev (fun k => postroomref11_Put.l0 k (bs (acc ++ encs (delt last (d.f3.drop j)))) (wrap64 (i + 1)) first next ds) v → Ev (fun k => postroomref11_Put.l1 k (bs acc) i last (j : Int) first next ds d.f0 d.f1 d.f2 d.f3 d.f4 d.f5 d.f6) v
 | 0, j, acc, last, hj, ha, hc => by
  rw [List.drop_eq_nil_of_le (by omega), delt, encs_nil, List.append_nil] at hc
  exact Ev.step (fun k => by rw [postroomref11_Put.l1, if_neg (by omega)]) hc
 | m + 1, j, acc, last, hj, ha, hc => by
  have hlt : j < d.f3.length := by omega
  have hx := enc_len10 (n := (IntKind.u64.wrap (d.f3[j] - last)).toNat) (by have := u_wrap (d.f3[j] - last); unfold U at this; omega)
  rw [List.drop_eq_getElem_cons hlt, delt, encs_cons, ← List.append_assoc] at hc
  refine Ev.step (fun k => by rw [postroomref11_Put.l1, if_pos (by omega), if_pos (by omega), rd_at d.f3 j hlt]) ?_
  refine Ev.bind (rnum_f (u_wrap _)) ?_
  refine Ev.congr (fun k => by rw [bs_size, bs_size, if_pos (by omega), bs_app, w_succ (by omega)]) ?_
  exact rp_l1 v ds first next i d hl hu m (j + 1) _ _ (by omega) (by rw [List.length_append]; omega) hc
theorem rp_l0 (first next : Int) (ds : List D) (hl : ds.length ≤ 1000) (hf : ∀ d ∈ ds, Fits d) : ∀ (m i : Nat) (acc : List UInt8), i + m = ds.length → acc.length + 100000000 * m ≤ 1000000000000 →
  Ev (fun k => postroomref11_Put.l0 k (bs acc) (i : Int) first next (ds.map cv)) (bs (acc ++ (ds.drop i).flatMap encD), 0)
 | 0, i, acc, hi, ha => by
  rw [List.drop_eq_nil_of_le (by omega)]
  exact Ev.stop fun k => by rw [postroomref11_Put.l0, if_neg (by rw [List.length_map]; omega)]; simp
 | m + 1, i, acc, hi, ha => by
  have hlt : i < ds.length := by omega
  obtain ⟨d, hd⟩ : ∃ d, ds[i] = d := ⟨_, rfl⟩
  have hF := hf d (hd ▸ List.getElem_mem hlt)
  have h1 := encT_len (l := ls d.f0) (by rw [ls_len]; have := hF.nm; omega)
  have hlen := hF.len
  have hnm := hF.nm
  rw [ls_len] at h1
  have q1 := enc_len10 (n := d.f1.toNat) (by have := hF.f1; unfold U at this; omega)
  have q2 := enc_len10 (n := d.f2.toNat) (by have := hF.f2; unfold U at this; omega)
  have q4 := enc_len10 (n := d.f4.toNat) (by have := hF.f4; unfold U at this; omega)
  have q5 := enc_len10 (n := d.f5.toNat) (by have := hF.f5; unfold U at this; omega)
  have q6 := enc_len10 (n := d.f6.toNat) (by have := hF.f6; unfold U at this; omega)
  have q7 := enc_len10 (n := ((d.f3.length : Int)).toNat) (by omega)
  have hc := rp_l0 first next ds hl hf m (i + 1) (acc ++ encD d) (by omega) (by rw [List.length_append]; have := encD_len hF; omega)
  rw [List.drop_eq_getElem_cons hlt, hd, List.flatMap_cons, ← List.append_assoc]
  have hpt : Ev (fun k => postroomref1_PutText.f k (cv d).f0) (bs (encT (ls d.f0))) := Ev.from 10 fun k hk => rputText_f (l := ls d.f0) (by rw [ls_len]; omega) hk
  refine Ev.step (fun k => by rw [postroomref11_Put.l0, if_pos (by rw [List.length_map]; omega), if_pos (by omega), rdR ds i hlt, hd]) ?_
  refine Ev.bind hpt (Ev.congr (fun k => by rw [bs_size, bs_size, if_pos (by omega), bs_app]) ?_)
  refine Ev.bind (rnum_f (x := (cv d).f1) hF.f1) (Ev.congr (fun k => by rw [bs_size, bs_size, if_pos (by simp only [List.length_append, cv] at *; omega), bs_app]) ?_)
  refine Ev.bind (rnum_f (x := (cv d).f2) hF.f2) (Ev.congr (fun k => by rw [bs_size, bs_size, if_pos (by simp only [List.length_append, cv] at *; omega), bs_app]) ?_)
  refine Ev.bind (rnum_f (x := (cv d).f4) hF.f4) (Ev.congr (fun k => by rw [bs_size, bs_size, if_pos (by simp only [List.length_append, cv] at *; omega), bs_app]) ?_)
  refine Ev.bind (rnum_f (x := (cv d).f5) hF.f5) (Ev.congr (fun k => by rw [bs_size, bs_size, if_pos (by simp only [List.length_append, cv] at *; omega), bs_app]) ?_)
  refine Ev.bind (rnum_f (x := (cv d).f6) hF.f6) (Ev.congr (fun k => by rw [bs_size, bs_size, if_pos (by simp only [List.length_append, cv] at *; omega), bs_app]) ?_)
  refine Ev.bind (rnum_f (u_wrap _)) (Ev.congr (fun k => by rw [u_id (x := (((cv d).f3).length : Int)) (by show U (d.f3.length : Int); unfold U; omega), bs_size, bs_size, if_pos (by simp only [List.length_append, cv] at *; omega), bs_app]) ?_)
  refine rp_l1 _ (ds.map cv) first next (i : Int) d hlen hF.f3 d.f3.length 0 _ d.f2 (by omega) (by simp only [List.length_append, cv] at *; omega) ?_
  rw [w_succ (by omega), List.drop_zero]
  have e : acc ++ encT (ls d.f0) ++ enc (cv d).f1.toNat ++ enc (cv d).f2.toNat ++ enc (cv d).f4.toNat ++ enc (cv d).f5.toNat ++ enc (cv d).f6.toNat ++ enc (((cv d).f3.length : Int)).toNat ++ encs (delt d.f2 d.f3) = acc ++ encD d := by
   unfold encD; simp only [encs_cons, encs_nil, List.append_nil, List.append_assoc, cv]
  rw [e]
  exact hc
theorem rput_law {first next : Int} {ds : List D} (h : WFL first next ds) (hl : ds.length ≤ 1000000000000000000) (hn : ∀ d ∈ ds, d.f0.size ≤ 9223372036854775807) : Ev (fun k => postroomref11_Put.f k first next (ds.map cv)) (if rightL first next ds = true then (bs (encL first next ds), 0) else (⟨#[]⟩, 1)) := by
 refine Ev.bind (rright_f first next ds hl (fun d hd => by have := (h.all d hd).2; omega) hn) ?_
 by_cases c : rightL first next ds = true
 ·have h4 := (rightL_name c).1
  have hh := head3 h (by omega)
  have q1 := enc_len10 (n := first.toNat) (by have := h.first; unfold U at this; omega)
  have q2 := enc_len10 (n := next.toNat) (by have := h.next; unfold U at this; omega)
  have q3 := enc_len10 (n := ((ds.length : Int)).toNat) (by omega)
  rw [if_pos c]
  refine Ev.congr (fun k => if_pos c) ?_
  refine Ev.bind (rnum_f h.first) (Ev.bind (rnum_f h.next) (Ev.congr (fun k => by rw [bs_size, bs_size, if_pos (by omega), bs_app]) ?_))
  refine Ev.bind (rnum_f (u_wrap _)) (Ev.congr (fun k => by rw [List.length_map, u_id (x := (ds.length : Int)) (by unfold U; omega), bs_size, bs_size, if_pos (by rw [List.length_append]; omega), bs_app]) ?_)
  have := rp_l0 first next ds (by omega) (h.fits c) ds.length 0 (enc first.toNat ++ enc next.toNat ++ enc ((ds.length : Int)).toNat) (by omega) (by simp only [List.length_append]; omega)
  rw [List.drop_zero] at this
  have e : encL first next ds = enc first.toNat ++ enc next.toNat ++ enc ((ds.length : Int)).toNat ++ ds.flatMap encD := by
   unfold encL; simp only [encs_cons, encs_nil, List.append_nil, List.append_assoc]
  rw [e]
  exact this
 ·rw [if_neg c]
  exact Ev.congr (fun k => if_neg c) (Ev.now _)
/-! ### 7. the document's taking -/
theorem row_any (M : Nat) (hM : M ≤ 1000000000) : ∀ (m i : Nat) (t : List UInt8) (acc : List Int), i + m = M → acc.length ≤ i → t.length ≤ 140737488351232 →
  ∃ (q : List Int) (r : List UInt8) (b : Bool), Ev (fun k => postroomref11_row.l0 k (bs t) (M : Int) acc (i : Int)) (if b = true then acc ++ q else [], bs r, b) ∧ (∀ x ∈ q, U x) ∧ (b = true → q.length = m ∧ r.length + m ≤ t.length) ∧ r.length ≤ t.length
 | 0, i, t, acc, hi, ha, ht => ⟨[], t, true, by
   refine Ev.stop fun k => ?_
   rw [postroomref11_row.l0, if_neg (by omega), if_pos rfl, List.append_nil], (fun x h => by cases h), (fun _ => ⟨rfl, by omega⟩), Nat.le_refl _⟩
 | m + 1, i, t, acc, hi, ha, ht => by
  have hs : ∀ k, postroomref11_row.l0 (k + 1) (bs t) (M : Int) acc (i : Int) = (postroomref1_Take.f k (bs t)).bind fun bt265 => if bt265.2.2 = 0 then (postroomref11_row.l0 k bt265.2.1 (M : Int) (acc ++ [bt265.1]) ((i + 1 : Nat) : Int)) else (some (([] : List Int), (⟨#[]⟩ : ByteArray), false)) := fun k => by
   rw [postroomref11_row.l0, if_pos (by omega), w_succ (by omega)]
   congr 1; funext z
   by_cases c : z.2.2 = 0
   ·rw [if_pos c, if_pos c, if_pos (by omega)]
   ·rw [if_neg c, if_neg c]
  rcases takeP_cases t with ⟨n, r, e, hn, hT⟩ | ⟨hT, _⟩
  ·have hp := enc_pos n
   have hlen : t.length = (enc n).length + r.length := by rw [e, List.length_append]
   obtain ⟨q, r', b, g, gu, gl, gr⟩ := row_any M hM m (i + 1) r (acc ++ [(n : Int)]) (by omega) (by simp only [List.length_append, List.length_cons, List.length_nil]; omega) (by omega)
   refine ⟨(n : Int) :: q, r', b, ?_, fun x hx => ?_, fun h => ?_, by omega⟩
   ·refine Ev.step hs (Ev.bind (Ev.from 60 fun k hk => rtake_f ht hk) ?_)
    rw [hT]
    refine Ev.congr (fun k => if_pos rfl) ?_
    rwa [List.append_assoc, List.singleton_append] at g
   ·rcases List.mem_cons.1 hx with rfl | hx
    ·unfold U; omega
    ·exact gu x hx
   ·have := gl h
    exact ⟨by simp [this.1], by omega⟩
  ·refine ⟨[], [], false, ?_, (fun x h => by cases h), (fun h => by cases h), by simp⟩
   refine Ev.step hs (Ev.bind (Ev.from 60 fun k hk => rtake_f ht hk) ?_)
   rw [hT]
   exact Ev.congr (fun k => if_neg (by decide)) (Ev.now _)
theorem row_put (M : Nat) (hM : M ≤ 1000000000) : ∀ (l : List Int) (i : Nat) (r : List UInt8) (acc : List Int), i + l.length = M → acc.length ≤ i → (∀ x ∈ l, U x) → (encs l ++ r).length ≤ 140737488351232 →
  Ev (fun k => postroomref11_row.l0 k (bs (encs l ++ r)) (M : Int) acc (i : Int)) (acc ++ l, bs r, true)
 | [], i, r, acc, hi, ha, hu, ht => by
   refine Ev.stop fun k => ?_
   rw [postroomref11_row.l0, if_neg (by simp only [List.length_nil] at hi; omega), encs_nil, List.append_nil, List.nil_append]
 | x :: l, i, r, acc, hi, ha, hu, ht => by
  simp only [List.length_cons] at hi
  rw [encs_cons, List.append_assoc] at ht ⊢
  have hx := hu x (by simp)
  have hT := takeP_put (n := x.toNat) (by unfold U at hx; omega) (encs l ++ r)
  rw [Int.toNat_of_nonneg hx.1] at hT
  have hs : ∀ (t : ByteArray) (k : Nat), postroomref11_row.l0 (k + 1) t (M : Int) acc (i : Int) = (postroomref1_Take.f k t).bind fun bt265 => if bt265.2.2 = 0 then (postroomref11_row.l0 k bt265.2.1 (M : Int) (acc ++ [bt265.1]) ((i + 1 : Nat) : Int)) else (some (([] : List Int), (⟨#[]⟩ : ByteArray), false)) := fun t k => by
   rw [postroomref11_row.l0, if_pos (by omega), w_succ (by omega)]
   congr 1; funext z
   by_cases c : z.2.2 = 0
   ·rw [if_pos c, if_pos c, if_pos (by omega)]
   ·rw [if_neg c, if_neg c]
  refine Ev.step (hs _) (Ev.bind (Ev.from 60 fun k hk => rtake_f ht hk) ?_)
  rw [hT]
  refine Ev.congr (fun k => if_pos rfl) ?_
  have := row_put M hM l (i + 1) r (acc ++ [x]) (by omega) (by simp only [List.length_append, List.length_cons, List.length_nil]; omega) (fun y hy => hu y (by simp [hy])) (by rw [List.length_append] at ht; omega)
  rwa [List.append_assoc, List.singleton_append] at this
/-- the numbers above, told from where they begin -/
def undel : Int → List Int → List Int
 | _, [] => []
 | last, x :: l => IntKind.u64.wrap (last + x) :: undel (IntKind.u64.wrap (last + x)) l
theorem undel_u : ∀ (l : List Int) (last : Int), ∀ x ∈ undel last l, U x
 | [], _, x, h => by cases h
 | a :: r, last, x, h => by
  rcases List.mem_cons.1 h with rfl | h
  ·exact u_wrap _
  ·exact undel_u r _ x h
theorem undel_len : ∀ (l : List Int) (last : Int), (undel last l).length = l.length
 | [], _ => rfl
 | a :: r, last => by simp only [undel, List.length_cons, undel_len r]
theorem undel_delt : ∀ (l : List Int) (last : Int), (∀ x ∈ l, U x) → undel last (delt last l) = l
 | [], _, _ => rfl
 | a :: r, last, h => by
  simp only [delt, undel]
  rw [wr_back (h a (by simp)), undel_delt r a (fun x hx => h x (by simp [hx]))]
theorem rd_l0 (s : ByteArray) (m : List Int) (hm : m.length ≤ 1000000000) (nm : ByteArray) (a b c d e : Int) : ∀ (q i : Nat) (last : Int) (ab : List Int), i + q = m.length → ab.length ≤ i →
  Ev (fun k => postroomref11_dest.l0 k s true m last (i : Int) nm a b ab c d e) (nm, a, b, ab ++ undel last (m.drop i), c, d, e, s, true)
 | 0, i, last, ab, hi, ha => by
  rw [List.drop_eq_nil_of_le (by omega), undel, List.append_nil]
  exact Ev.stop fun k => by rw [postroomref11_dest.l0, if_pos rfl, if_neg (by omega)]
 | q + 1, i, last, ab, hi, ha => by
  have hlt : i < m.length := by omega
  rw [List.drop_eq_getElem_cons hlt, undel]
  refine Ev.step (fun k => by rw [postroomref11_dest.l0, if_pos rfl, if_pos (by omega), if_pos (by omega), if_pos (by omega), rd_at m i hlt, w_succ (by omega)]) ?_
  have := rd_l0 s m hm nm a b c d e q (i + 1) (IntKind.u64.wrap (last + m[i])) (ab ++ [IntKind.u64.wrap (last + m[i])]) (by omega) (by simp only [List.length_append, List.length_cons, List.length_nil]; omega)
  rwa [List.append_assoc, List.singleton_append] at this
theorem rd_l0f (s : ByteArray) (m : List Int) (nm : ByteArray) (a b c d e last i : Int) (ab : List Int) : Ev (fun k => postroomref11_dest.l0 k s false m last i nm a b ab c d e) (nm, a, b, ab, c, d, e, s, false) :=
 Ev.stop fun k => by rw [postroomref11_dest.l0, if_neg (by decide)]
def zD : D := ⟨⟨#[]⟩, 0, 0, [], 0, 0, 0⟩
theorem six {q : List Int} (h : q.length = 6) : ∃ x1 x2 x3 x4 x5 x6, q = [x1, x2, x3, x4, x5, x6] := by
 match q, h with
 | [x1, x2, x3, x4, x5, x6], _ => exact ⟨_, _, _, _, _, _, rfl⟩
theorem three {q : List Int} (h : q.length = 3) : ∃ x1 x2 x3, q = [x1, x2, x3] := by
 match q, h with
 | [x1, x2, x3], _ => exact ⟨_, _, _, rfl⟩
theorem rdest_j0 (nm : ByteArray) (y : List UInt8) (x1 x2 x3 x4 x5 x6 : Int) (h6 : U x6) (hy : y.length ≤ 500000) : ∀ k, postroomref11_dest.j0 (k + 1) (bs y) nm [x1, x2, x3, x4, x5, x6] (decide (x6 > IntKind.u64.wrap ((bs y).size : Int))) =
  if x6.toNat ≤ y.length then (postroomref11_row.f k (bs y) (x6.toNat : Int)).bind fun bt291 => postroomref11_dest.l0 k bt291.2.1 bt291.2.2 bt291.1 x2 0 nm x1 x2 ([] : List Int) x3 x4 x5 else some (out7 zD [] false) := fun k => by
 have e1 : IntKind.u64.wrap ((bs y).size : Int) = (y.length : Int) := by rw [bs_size, u64_id (by omega) (by omega)]
 unfold U at h6
 rw [e1, postroomref11_dest.j0]
 by_cases c : x6 > (y.length : Int)
 ·rw [decide_eq_true c, if_pos rfl, if_neg (by omega)]; rfl
 ·rw [decide_eq_false c, if_neg (by decide), if_pos (by simp), if_pos (by simp), if_pos (by simp), if_pos (by simp), if_pos (by simp), if_pos (by simp), if_pos (by omega)]
  have r0 : ∀ z : List Int, rd z 0 = z.getD 0 0 := fun _ => rfl
  have e5 : rd [x1, x2, x3, x4, x5, x6] 5 = x6 := rfl
  rw [e5, show wrap64 x6 = ((x6.toNat : Nat) : Int) by rw [w64_id (by omega) (by omega)]; omega]
  rfl
theorem rdest_any (t : List UInt8) (hl : t.length ≤ 500000) : ∃ (d : D) (r : List UInt8) (b : Bool), Ev (fun k => postroomref11_dest.f k (bs t)) (out7 d r b) ∧ (b = true → WFD d ∧ d.f3.length ≤ 1000000 ∧ d.f0.size ≤ 9223372036854775807) ∧ r.length ≤ t.length := by
 obtain ⟨x, y, e, h0, hy, he⟩ := takeTP_any t
 have hx : (bs x).size ≤ 9223372036854775807 ∨ e ≠ 0 := by
  by_cases ce : e = 0
  ·left
   rcases h : dec 0 t with _ | ⟨n, r⟩
   ·unfold takeTP at h0; rw [h] at h0; simp only [Prod.mk.injEq] at h0; rw [← h0.2.2] at ce; cases ce
   ·obtain ⟨e', hn⟩ := dec_some h
    have hlen : t.length = (enc n).length + r.length := by rw [e', List.length_append]
    unfold takeTP at h0
    rw [h] at h0
    simp only at h0
    split at h0
    ·simp only [Prod.mk.injEq] at h0; rw [← h0.2.2] at ce; cases ce
    ·split at h0
     ·simp only [Prod.mk.injEq] at h0; rw [← h0.2.2] at ce; cases ce
     ·simp only [Prod.mk.injEq] at h0
      rw [← h0.1, bs_size, List.length_take]; omega
  ·exact .inr ce
 have hT : Ev (fun k => postroomref1_TakeText.f k (bs t) 20) (takeTP t 20) := Ev.from 60 fun k hk => rtakeText_f (by omega) (by omega) hk
 rw [h0] at hT
 by_cases ce : e = 0
 ·have hx' : (bs x).size ≤ 9223372036854775807 := hx.resolve_right (fun h => h ce)
  obtain ⟨q, r, b, g, gu, gl, gr⟩ := row_any 6 (by omega) 6 0 y [] (by omega) (by simp) (by omega)
  cases b with
  | false =>
   refine ⟨zD, [], false, ?_, (fun h => by cases h), by simp⟩
   refine Ev.bind hT (Ev.congr (fun k => if_pos ce) (Ev.bind (a := ([], bs r, false)) g ?_))
   refine Ev.congr (fun k => if_neg (show ¬ false = true by decide)) (Ev.stop fun k => ?_)
   rw [postroomref11_dest.j0, if_pos rfl]; rfl
  | true =>
   obtain ⟨x1, x2, x3, x4, x5, x6, rfl⟩ := six (gl rfl).1
   have g' : Ev (fun k => postroomref11_row.f k (bs y) 6) ([x1, x2, x3, x4, x5, x6], bs r, true) := g
   have u6 := gu x6 (by simp)
   have hs := rdest_j0 (bs x) r x1 x2 x3 x4 x5 x6 u6 (by omega)
   have hd : ∀ v, Ev (fun k => postroomref11_dest.j0 k (bs r) (bs x) [x1, x2, x3, x4, x5, x6] (decide (x6 > IntKind.u64.wrap ((bs r).size : Int)))) v → Ev (fun k => postroomref11_dest.f k (bs t)) v := fun v hv => by
    refine Ev.bind hT (Ev.congr (fun k => if_pos ce) (Ev.bind g' ?_))
    exact Ev.congr (fun k => (if_pos rfl).trans (if_pos (by simp))) hv
   by_cases c6 : x6.toNat ≤ r.length
   ·obtain ⟨q2, r2, b2, f2, fu, fl, fr⟩ := row_any x6.toNat (by omega) x6.toNat 0 r [] (by omega) (by simp) (by omega)
    cases b2 with
    | false =>
     refine ⟨⟨bs x, x1, x2, [], x3, x4, x5⟩, r2, false, ?_, (fun h => by cases h), by omega⟩
     refine hd _ (Ev.step (fun k => (hs k).trans (if_pos c6)) (Ev.bind (a := ([], bs r2, false)) f2 ?_))
     exact rd_l0f _ _ _ _ _ _ _ _ _ _ _
    | true =>
     have ql := (fl rfl).1
     refine ⟨⟨bs x, x1, x2, undel x2 q2, x3, x4, x5⟩, r2, true, ?_, fun _ => ⟨⟨gu x1 (by simp), gu x2 (by simp), undel_u _ _, gu x3 (by simp), gu x4 (by simp), gu x5 (by simp)⟩, by show (undel x2 q2).length ≤ _; rw [undel_len]; omega, hx'⟩, by omega⟩
     refine hd _ (Ev.step (fun k => (hs k).trans (if_pos c6)) (Ev.bind (a := (q2, bs r2, true)) f2 ?_))
     have := rd_l0 (bs r2) q2 (by omega) (bs x) x1 x2 x3 x4 x5 q2.length 0 x2 [] (by omega) (by simp)
     exact this
   ·refine ⟨zD, [], false, ?_, (fun h => by cases h), by simp⟩
    exact hd _ (Ev.stop fun k => (hs k).trans (if_neg c6))
 ·refine ⟨zD, [], false, ?_, (fun h => by cases h), by simp⟩
  exact Ev.bind hT (Ev.congr (fun k => if_neg ce) (Ev.now _))
theorem rdest_put (d : D) (hF : Fits d) (r : List UInt8) (hl : (encD d ++ r).length ≤ 500000) (ht : d.f3.length ≤ (encs (delt d.f2 d.f3) ++ r).length) : Ev (fun k => postroomref11_dest.f k (bs (encD d ++ r))) (out7 d r true) := by
 have hlen := hF.len
 have hb : encD d ++ r = encT (ls d.f0) ++ (encs [d.f1, d.f2, d.f4, d.f5, d.f6, (d.f3.length : Int)] ++ (encs (delt d.f2 d.f3) ++ r)) := by
  unfold encD; simp only [List.append_assoc]
 rw [hb] at hl ⊢
 have hls : ∀ {x y : List UInt8}, (x ++ y).length ≤ 500000 → y.length ≤ 500000 := fun h => by rw [List.length_append] at h; omega
 have l1 := hls hl
 have l2 := hls l1
 have hT : Ev (fun k => postroomref1_TakeText.f k (bs (encT (ls d.f0) ++ (encs [d.f1, d.f2, d.f4, d.f5, d.f6, (d.f3.length : Int)] ++ (encs (delt d.f2 d.f3) ++ r)))) 20) (bs (ls d.f0), bs (encs [d.f1, d.f2, d.f4, d.f5, d.f6, (d.f3.length : Int)] ++ (encs (delt d.f2 d.f3) ++ r)), 0) :=
  Ev.from 60 fun k hk => by rw [← takeTP_encT _ _ (by rw [ls_len]; exact hF.nm)]; exact rtakeText_f (by omega) (by omega) hk
 have hR := row_put 6 (by omega) [d.f1, d.f2, d.f4, d.f5, d.f6, (d.f3.length : Int)] 0 (encs (delt d.f2 d.f3) ++ r) [] rfl (by simp) hF.head (by omega)
 refine Ev.bind hT (Ev.congr (fun k => if_pos rfl) (Ev.bind hR ?_))
 refine Ev.congr (fun k => (if_pos rfl).trans (if_pos (by simp))) ?_
 have hs := rdest_j0 (bs (ls d.f0)) (encs (delt d.f2 d.f3) ++ r) d.f1 d.f2 d.f4 d.f5 d.f6 (d.f3.length : Int) (by unfold U; omega) l2
 refine Ev.step (fun k => (hs k).trans (if_pos (by rw [Int.toNat_natCast]; exact ht))) ?_
 have hR2 := row_put d.f3.length (by omega) (delt d.f2 d.f3) 0 r [] (by rw [delt_len]; omega) (by simp) (delt_u _ _) (by omega)
 refine Ev.bind hR2 ?_
 have := rd_l0 (bs r) (delt d.f2 d.f3) (by rw [delt_len]; omega) (bs (ls d.f0)) d.f1 d.f2 d.f4 d.f5 d.f6 (delt d.f2 d.f3).length 0 d.f2 [] (by omega) (by simp)
 rw [List.drop_zero, undel_delt _ _ hF.f3] at this
 exact this

def rerr : Int × Int × List R × Int := (0, 0, [], 2)
def RTold (s : ByteArray) (r : Int × Int × List R × Int) : Prop := r = rerr ∨ ∃ first next ds, r = (first, next, ds.map cv, 0) ∧ WFL first next ds ∧ rightL first next ds = true ∧ s = bs (encL first next ds)
theorem rtl0_end (s t : ByteArray) (x1 x2 : Int) (c : Nat) (ds : List D) (h : WFL x1 x2 ds) (hl : ds.length ≤ 1000000) (hn : ∀ d ∈ ds, d.f0.size ≤ 9223372036854775807) :
  ∃ r, Ev (fun k => postroomref11_Take.l0 k s [x1, x2, (c : Int)] t (c : Int) x1 x2 (ds.map cv)) r ∧ RTold s r ∧ (rightL x1 x2 ds = true → s = bs (encL x1 x2 ds) → r = (x1, x2, ds.map cv, 0)) := by
 have hp := rput_law h (by omega) hn
 have hs : ∀ k, postroomref11_Take.l0 (k + 1) s [x1, x2, (c : Int)] t (c : Int) x1 x2 (ds.map cv) = (postroomref11_Put.f k x1 x2 (ds.map cv)).bind fun bt326 => (if bt326.2 = 0 then (if bt326.1.toList = s.toList then (some (x1, x2, ds.map cv, 0)) else (some (0, 0, ([] : List R), 2))) else (some (0, 0, ([] : List R), 2))) := fun k => by
  rw [postroomref11_Take.l0, if_pos (by simp), show rd [x1, x2, (c : Int)] 2 = (c : Int) from rfl, if_neg (by omega)]
 by_cases c1 : rightL x1 x2 ds = true
 ·rw [if_pos c1] at hp
  by_cases c2 : s = bs (encL x1 x2 ds)
  ·refine ⟨_, Ev.step hs (Ev.bind hp (Ev.congr (fun k => (if_pos rfl).trans (if_pos (by rw [c2]))) (Ev.now _))), .inr ⟨x1, x2, ds, rfl, h, c1, c2⟩, fun _ _ => rfl⟩
  ·refine ⟨rerr, Ev.step hs (Ev.bind hp (Ev.congr (fun k => (if_pos rfl).trans (if_neg (fun h => c2 ?_))) (Ev.now _))), .inl rfl, fun _ h => absurd h c2⟩
   obtain ⟨l, rfl⟩ := bs_list s
   simp only [bs_toList] at h
   rw [h]
 ·rw [if_neg c1] at hp
  exact ⟨rerr, Ev.step hs (Ev.bind hp (Ev.congr (fun k => if_neg (by decide)) (Ev.now _))), .inl rfl, fun h => absurd h c1⟩
theorem rtl0_step (s : ByteArray) (x1 x2 : Int) (c i : Nat) (hc : c ≤ 4) (hi : i < c) (ds : List D) (hd : ds.length ≤ 1000) (t : ByteArray) : ∀ k, postroomref11_Take.l0 (k + 1) s [x1, x2, (c : Int)] t (i : Int) x1 x2 (ds.map cv) =
  (postroomref11_dest.f k t).bind fun bt311 => (if bt311.2.2.2.2.2.2.2.2 = true then postroomref11_Take.l0 k s [x1, x2, (c : Int)] bt311.2.2.2.2.2.2.2.1 ((i + 1 : Nat) : Int) x1 x2 (ds.map cv ++ [(⟨bt311.1, bt311.2.1, bt311.2.2.1, bt311.2.2.2.1, bt311.2.2.2.2.1, bt311.2.2.2.2.2.1, bt311.2.2.2.2.2.2.1⟩ : R)]) else (some (0, 0, ([] : List R), 2))) := fun k => by
 rw [postroomref11_Take.l0, if_pos (by simp), show rd [x1, x2, (c : Int)] 2 = (c : Int) from rfl, if_pos (by omega), show IntKind.u64.wrap ((i : Int) + 1) = ((i + 1 : Nat) : Int) by rw [u64_id (by omega) (by omega)]; omega]
 congr 1; funext z
 by_cases c : z.2.2.2.2.2.2.2.2 = true
 ·rw [if_pos c, if_pos c, if_pos (by rw [List.length_map]; omega)]
 ·rw [if_neg c, if_neg c]
theorem rtl0_any (s : ByteArray) (x1 x2 : Int) (c : Nat) (hc : c ≤ 4) : ∀ (m i : Nat) (t : List UInt8) (ds : List D), i + m = c → t.length ≤ 500000 → ds.length ≤ i → WFL x1 x2 ds → (∀ d ∈ ds, d.f0.size ≤ 9223372036854775807) →
  ∃ r, Ev (fun k => postroomref11_Take.l0 k s [x1, x2, (c : Int)] (bs t) (i : Int) x1 x2 (ds.map cv)) r ∧ RTold s r
 | 0, i, t, ds, hi, ht, hd, h, hn => by
  obtain rfl : i = c := by omega
  obtain ⟨r, h1, h2, _⟩ := rtl0_end s (bs t) x1 x2 i ds h (by omega) hn
  exact ⟨r, h1, h2⟩
 | m + 1, i, t, ds, hi, ht, hd, h, hn => by
  obtain ⟨d, r, b, g, gw, gr⟩ := rdest_any t ht
  cases b with
  | false => exact ⟨rerr, Ev.step (rtl0_step s x1 x2 c i hc (by omega) ds (by omega) _) (Ev.bind g (Ev.congr (fun k => if_neg (show ¬ false = true by decide)) (Ev.now _))), .inl rfl⟩
  | true =>
   obtain ⟨w1, w2, w3⟩ := gw rfl
   obtain ⟨q, hq, hT⟩ := rtl0_any s x1 x2 c hc m (i + 1) r (ds ++ [d]) (by omega) (by omega) (by simp only [List.length_append, List.length_cons, List.length_nil]; omega) (wfl_snoc h w1 w2) (fun x hx => by
    rcases List.mem_append.1 hx with hx | hx
    ·exact hn x hx
    ·rw [List.mem_singleton] at hx; subst hx; exact w3)
   rw [List.map_append] at hq
   exact ⟨q, Ev.step (rtl0_step s x1 x2 c i hc (by omega) ds (by omega) _) (Ev.bind g (Ev.congr (fun k => if_pos rfl) hq)), hT⟩
theorem rtl0_put (s : ByteArray) (x1 x2 : Int) (c : Nat) (hc : c ≤ 4) : ∀ (l : List D) (i : Nat) (ds : List D) (r : List UInt8), i + l.length = c → (l.flatMap encD ++ r).length ≤ 500000 → ds.length ≤ i → (∀ d ∈ l, Fits d) → WFL x1 x2 ds → (∀ d ∈ ds, d.f0.size ≤ 9223372036854775807) → rightL x1 x2 (ds ++ l) = true → s = bs (encL x1 x2 (ds ++ l)) →
  Ev (fun k => postroomref11_Take.l0 k s [x1, x2, (c : Int)] (bs (l.flatMap encD ++ r)) (i : Int) x1 x2 (ds.map cv)) (x1, x2, (ds ++ l).map cv, 0)
 | [], i, ds, r, hi, ht, hd, hf, h, hn, hr, he => by
  simp only [List.length_nil] at hi
  obtain rfl : i = c := by omega
  rw [List.append_nil] at hr he ⊢
  obtain ⟨q, h1, _, h3⟩ := rtl0_end s (bs (List.flatMap encD [] ++ r)) x1 x2 i ds h (by omega) hn
  rw [h3 hr he] at h1
  exact h1
 | d :: l, i, ds, r, hi, ht, hd, hf, h, hn, hr, he => by
  simp only [List.length_cons] at hi
  have hF := hf d (by simp)
  rw [List.flatMap_cons, List.append_assoc] at ht ⊢
  have hb : d.f3.length ≤ (encs (delt d.f2 d.f3) ++ (l.flatMap encD ++ r)).length := by
   have : ∀ z : List Int, z.length ≤ (encs z).length := fun z => by
    induction z with
    | nil => simp
    | cons a z ih => rw [encs_cons, List.length_append, List.length_cons]; have := enc_pos a.toNat; omega
   have := this (delt d.f2 d.f3)
   rw [delt_len] at this
   rw [List.length_append]; omega
  have g := rdest_put d hF _ ht hb
  refine Ev.step (rtl0_step s x1 x2 c i hc (by omega) ds (by omega) _) (Ev.bind g (Ev.congr (fun k => if_pos rfl) ?_))
  have := rtl0_put s x1 x2 c hc l (i + 1) (ds ++ [d]) r (by omega) (by rw [List.length_append] at ht; omega) (by simp only [List.length_append, List.length_cons, List.length_nil]; omega) (fun x hx => hf x (by simp [hx])) (wfl_snoc h hF.toWFD hF.len) (fun x hx => by
    rcases List.mem_append.1 hx with hx | hx
    ·exact hn x hx
    ·rw [List.mem_singleton] at hx; subst hx; have := hF.nm; omega) (by rwa [List.append_assoc, List.singleton_append]) (by rwa [List.append_assoc, List.singleton_append])
  rw [List.append_assoc, List.singleton_append, List.map_append] at this
  exact this
theorem rtake_any (s : List UInt8) (hl : s.length ≤ 500000) : ∃ r, Ev (fun k => postroomref11_Take.f k (bs s)) r ∧ RTold (bs s) r := by
 obtain ⟨q, r, b, g, gu, gl, gr⟩ := row_any 3 (by omega) 3 0 s [] (by omega) (by simp) (by omega)
 cases b with
 | false =>
  refine ⟨rerr, ?_, .inl rfl⟩
  refine Ev.bind (a := ([], bs r, false)) g (Ev.congr (fun k => if_neg (show ¬ false = true by decide)) (Ev.stop fun k => ?_))
  rw [postroomref11_Take.j0, if_pos rfl]; rfl
 | true =>
  obtain ⟨x1, x2, x3, rfl⟩ := three (gl rfl).1
  have g' : Ev (fun k => postroomref11_row.f k (bs s) 3) ([x1, x2, x3], bs r, true) := g
  have u3 := gu x3 (by simp)
  have e2 : rd [x1, x2, x3] 2 = x3 := rfl
  have hd : ∀ v, Ev (fun k => postroomref11_Take.j0 k (bs s) [x1, x2, x3] (bs r) (decide (x3 > 4))) v → Ev (fun k => postroomref11_Take.f k (bs s)) v := fun v hv =>
   Ev.bind g' (Ev.congr (fun k => (if_pos rfl).trans (if_pos (by simp))) hv)
  by_cases c : x3 > 4
  ·refine ⟨rerr, hd _ (Ev.stop fun k => ?_), .inl rfl⟩
   rw [decide_eq_true c, postroomref11_Take.j0, if_pos rfl]; rfl
  ·unfold U at u3
   obtain ⟨q, hq, hT⟩ := rtl0_any (bs s) x1 x2 x3.toNat (by omega) x3.toNat 0 r [] (by omega) (by omega) (by simp) ⟨gu x1 (by simp), gu x2 (by simp), fun d hd => by cases hd⟩ (fun d hd => by cases hd)
   refine ⟨q, hd _ (Ev.step (fun k => ?_) hq), hT⟩
   rw [decide_eq_false c, postroomref11_Take.j0, if_neg (by decide), if_pos (by simp), if_pos (by simp), Int.toNat_of_nonneg u3.1]
   rfl
theorem rtake_put {first next : Int} {ds : List D} (h : WFL first next ds) (hr : rightL first next ds = true) (hl : (encL first next ds).length ≤ 500000) : Ev (fun k => postroomref11_Take.f k (bs (encL first next ds))) (first, next, ds.map cv, 0) := by
 have hf := h.fits hr
 have h4 := (rightL_name hr).1
 have hh := head3 h (by omega)
 have e : encL first next ds = encs [first, next, (ds.length : Int)] ++ (ds.flatMap encD ++ []) := by unfold encL; rw [List.append_nil]
 have hl1 := hl
 rw [e] at hl1
 have hR := row_put 3 (by omega) [first, next, (ds.length : Int)] 0 (ds.flatMap encD ++ []) [] rfl (by simp) hh (by omega)
 rw [← e] at hR
 refine Ev.bind hR (Ev.congr (fun k => (if_pos rfl).trans (if_pos (by simp))) ?_)
 have := rtl0_put (bs (encL first next ds)) first next ds.length h4 ds 0 [] [] (by omega) (by rw [List.length_append] at hl1; omega) (by simp) hf ⟨h.first, h.next, fun d hd => by cases hd⟩ (fun d hd => by cases hd) hr rfl
 refine Ev.step (fun k => ?_) this
 show postroomref11_Take.j0 (k + 1) (bs (encL first next ds)) [first, next, (ds.length : Int)] (bs (ds.flatMap encD ++ [])) (decide ((ds.length : Int) > 4)) = _
 rw [decide_eq_false (by omega), postroomref11_Take.j0, if_neg (by decide), if_pos (by simp), if_pos (by simp)]
 rfl
end Go.Proofs.YtmbigoeldobaiaaDoor.Mrk
