/- The plain law of chapter 11: a ledger that is right, and its bytes; what the two readings of the chapter come to. Conditions: those that each theorem names. -/
import Derived.Test.YtmbigoeldobaiaaDoorMrkNumQ
import Derived.Test.YtmbigoeldobaiaaDoorNameLaw
import Derived.Test.YtmbigoeldobaiaaDoorGPlace
import Derived.Test.YtmbigoeldobaiaaDoorGNumbers
import Derived.Test.YtmbigoeldobaiaaDoorXMrkP1
import Derived.Test.YtmbigoeldobaiaaDoorXMrkP2
import Derived.Test.YtmbigoeldobaiaaDoorXMrkP3
import Derived.Test.YtmbigoeldobaiaaDoorXMrkP4
namespace Go.Proofs.YtmbigoeldobaiaaDoor.Mrk
open Go.Proofs.YtmbigoeldobaiaaDoorW.PrintWords hiding encs
open Go.RowKit Go.Proofs.YtmbigoeldobaiaaDoorW.PrintLast Go.Proofs.YtmbigoeldobaiaaDoorW.PrintMore Go.Proofs.YtmbigoeldobaiaaDoor.Num Go.Proofs.YtmbigoeldobaiaaDoor.XMrk Go.Proofs.YtmbigoeldobaiaaDoor.Nam
set_option linter.unusedVariables false
set_option linter.unusedSimpArgs false
abbrev R := S57
def cv (d : D) : R := ⟨d.f0, d.f1, d.f2, d.f3, d.f4, d.f5, d.f6⟩
def U (x : Int) : Prop := 0 ≤ x ∧ x < 18446744073709551616
theorem u_wrap (x : Int) : U (IntKind.u64.wrap x) := by rw [u64_wrap]; unfold U; omega
theorem u_id {x : Int} (h : U x) : IntKind.u64.wrap x = x := u64_id h.1 h.2
structure WFD (d : D) : Prop where
 f1 : U d.f1
 f2 : U d.f2
 f3 : ∀ a ∈ d.f3, U a
 f4 : U d.f4
 f5 : U d.f5
 f6 : U d.f6
theorem Ev.uniq {α : Type} {g : Nat → Option α} {r r' : α} (h : Ev g r) (h' : Ev g r') : r = r' := by
 obtain ⟨K, h⟩ := h
 obtain ⟨K', h'⟩ := h'
 have a := h (max K K') (by omega)
 rw [h' (max K K') (by omega)] at a
 exact (Option.some.inj a).symm
theorem Ev.fix {α : Type} {g : Nat → Option α} {r : α} (h : ∀ k, g k = some r) : Ev g r := ⟨0, fun k _ => h k⟩
theorem Ev.from {α : Type} {g : Nat → Option α} {r : α} (K : Nat) (h : ∀ k, K ≤ k → g k = some r) : Ev g r := ⟨K, h⟩
theorem Ev.stop {α : Type} {g : Nat → Option α} {r : α} (h : ∀ k, g (k + 1) = some r) : Ev g r := Ev.step (f := fun _ => some r) h (Ev.now r)
theorem rd_at (l : List Int) (i : Nat) (h : i < l.length) : rd l (i : Int) = l[i] := by
 unfold rd; rw [Int.toNat_natCast, List.getD_eq_getElem?_getD, List.getElem?_eq_getElem h]; rfl
theorem rdD (l : List D) (i : Nat) (h : i < l.length) : rd_T55 l (i : Int) = l[i] := by
 unfold rd_T55; rw [Int.toNat_natCast, List.getD_eq_getElem?_getD, List.getElem?_eq_getElem h]; rfl
/-! ### 1. what is right -/
def abv (next : Int) : Int → List Int → Bool
 | _, [] => true
 | low, a :: r => if a ≤ low then false else if a ≥ next then false else abv next a r
def many (s lo : Int) (n : Int) : Int := IntKind.u64.wrap (IntKind.u64.wrap (lo - s) + IntKind.u64.wrap n)
def sum3 (a e r : Int) : Int := IntKind.u64.wrap (IntKind.u64.wrap (a + e) + r)
def fin (s lo n a e r first next : Int) : Bool := (decide (IntKind.u64.wrap (next - s) = many s lo n) || decide (first ≤ lo)) && (sum3 a e r == many s lo n)
def okD (first next : Int) (d : D) : Bool := nameOk (ls d.f0) && decide (1 ≤ d.f1) && decide (d.f1 ≤ d.f2) && decide (d.f2 ≤ next) && (abv next d.f2 d.f3 && fin d.f1 d.f2 (d.f3.length : Int) d.f4 d.f5 d.f6 first next)
def rightF (first next : Int) : List D → List D → Bool
 | _, [] => true
 | p, d :: r => okD first next d && !decide (plN p d.f0 < p.length) && rightF first next (p ++ [d]) r
def rightL (first next : Int) (l : List D) : Bool := decide (1 ≤ first) && decide (first ≤ next) && decide (l.length ≤ 4) && rightF first next [] l

theorem wrap0 (x y : Int) : IntKind.u64.wrap (IntKind.u64.wrap x - IntKind.u64.wrap y) = 0 ↔ IntKind.u64.wrap x = IntKind.u64.wrap y := by simp only [u64_wrap]; omega
theorem dr_l0 (all : List Int) (hl : all.length ≤ 1000000000000000000) (nm : ByteArray) (s lo a e r first next : Int) (ds : List D) : ∀ (d i : Nat) (last : Int), i + d = all.length →
  Ev (fun k => ledger_Dest_right.l0 k last all (all.length : Int) (i : Int) nm s lo all a e r first next ds) (abv next last (all.drop i) && fin s lo (all.length : Int) a e r first next)
 | 0, i, last, hi => by
  refine Ev.stop fun k => ?_
  rw [ledger_Dest_right.l0, if_neg (by omega), List.drop_eq_nil_of_le (by omega)]
  show _ = some (true && fin s lo (all.length : Int) a e r first next)
  rw [Bool.true_and]
  unfold fin
  by_cases c : IntKind.u64.wrap (next - s) = many s lo (all.length : Int)
  ·rw [if_pos ((wrap0 _ _).2 c), decide_eq_true c]; simp [sum3, many]
  ·rw [if_neg (fun h => c ((wrap0 _ _).1 h)), decide_eq_false c, Bool.false_or]
   by_cases c2 : first ≤ lo
   ·rw [if_pos c2, decide_eq_true c2, Bool.true_and]; rfl
   ·rw [if_neg c2, decide_eq_false c2, Bool.false_and]
 | d + 1, i, last, hi => by
  have hlt : i < all.length := by omega
  have hd : all.drop i = all[i] :: all.drop (i + 1) := List.drop_eq_getElem_cons hlt
  have hs : ∀ k, ledger_Dest_right.l0 (k + 1) last all (all.length : Int) (i : Int) nm s lo all a e r first next ds = if all[i] ≤ last then some false else if all[i] ≥ next then some false else ledger_Dest_right.l0 k all[i] all (all.length : Int) ((i + 1 : Nat) : Int) nm s lo all a e r first next ds := fun k => by
   rw [ledger_Dest_right.l0, if_pos (by omega), if_pos (by omega), if_pos (by omega), rd_at all i hlt, w_succ (by omega)]
  rw [hd, abv]
  by_cases c1 : all[i] ≤ last
  ·rw [if_pos c1]; exact Ev.stop fun k => by rw [hs, if_pos c1]; rfl
  ·rw [if_neg c1]
   by_cases c2 : all[i] ≥ next
   ·rw [if_pos c2]; exact Ev.stop fun k => by rw [hs, if_neg c1, if_pos c2]; rfl
   ·rw [if_neg c2]
    exact Ev.step (fun k => by rw [hs, if_neg c1, if_neg c2]) (dr_l0 all hl nm s lo a e r first next ds d (i + 1) all[i] (by omega))
theorem dright_f (d : D) (hl : d.f3.length ≤ 1000000000000000000) (first next : Int) (ds : List D) : Ev (fun k => ledger_Dest_right.f k d.f0 d.f1 d.f2 d.f3 d.f4 d.f5 d.f6 first next ds) (okD first next d) := by
 have hb : ∀ b : Bool, Ev (fun k => ledger_Dest_right.j0 k b d.f0 d.f1 d.f2 d.f3 d.f4 d.f5 d.f6 first next ds) (!b && (abv next d.f2 d.f3 && fin d.f1 d.f2 (d.f3.length : Int) d.f4 d.f5 d.f6 first next)) := fun b => by
  cases b
  ·refine Ev.step (fun k => by rw [ledger_Dest_right.j0, if_neg (by decide)]) ?_
   have := dr_l0 d.f3 hl d.f0 d.f1 d.f2 d.f4 d.f5 d.f6 first next ds d.f3.length 0 d.f2 (by omega)
   simpa using this
  ·exact Ev.stop fun k => by rw [ledger_Dest_right.j0, if_pos rfl]; rfl
 unfold okD
 by_cases c0 : nameOk (ls d.f0) = true
 ·have e0 : ∀ k, ledger_Dest_right.f k d.f0 d.f1 d.f2 d.f3 d.f4 d.f5 d.f6 first next ds = if d.f1 < 1 then (ledger_Dest_right.j0 k true d.f0 d.f1 d.f2 d.f3 d.f4 d.f5 d.f6 first next ds) else (if d.f2 < d.f1 then (ledger_Dest_right.j0 k true d.f0 d.f1 d.f2 d.f3 d.f4 d.f5 d.f6 first next ds) else (ledger_Dest_right.j0 k (decide (next < d.f2)) d.f0 d.f1 d.f2 d.f3 d.f4 d.f5 d.f6 first next ds)) := fun k => by
   unfold ledger_Dest_right.f label_Name.f; rw [bsome, if_pos c0]
  rw [c0, Bool.true_and]
  by_cases c1 : d.f1 < 1
  ·refine Ev.congr (fun k => by rw [e0, if_pos c1]) ?_
   have := hb true
   rw [decide_eq_false (show ¬ 1 ≤ d.f1 by omega)]
   simpa using this
  ·by_cases c2 : d.f2 < d.f1
   ·refine Ev.congr (fun k => by rw [e0, if_neg c1, if_pos c2]) ?_
    have := hb true
    rw [decide_eq_false (show ¬ d.f1 ≤ d.f2 by omega)]
    simpa using this
   ·refine Ev.congr (fun k => by rw [e0, if_neg c1, if_neg c2]) ?_
    have := hb (decide (next < d.f2))
    rw [decide_eq_true (show 1 ≤ d.f1 by omega), decide_eq_true (show d.f1 ≤ d.f2 by omega)]
    have e3 : (!decide (next < d.f2)) = decide (d.f2 ≤ next) := by
     by_cases c3 : next < d.f2
     ·rw [decide_eq_true c3, decide_eq_false (by omega)]; rfl
     ·rw [decide_eq_false c3, decide_eq_true (by omega)]; rfl
    rw [e3] at this
    simpa using this
 ·have e0 : nameOk (ls d.f0) = false := by simpa using c0
  refine Ev.congr (fun k => by unfold ledger_Dest_right.f label_Name.f; rw [bsome, if_neg c0]) ?_
  have := hb true
  rw [e0]
  simpa using this
theorem right_l0 (first next : Int) (ds : List D) (hl : ds.length ≤ 1000000000000000000) (ha : ∀ d ∈ ds, d.f3.length ≤ 1000000000000000000) : ∀ (d i : Nat), i + d = ds.length →
  Ev (fun k => ledger_Right.l0 k ds (ds.length : Int) (i : Int) first next ds) (rightF first next (ds.take i) (ds.drop i))
 | 0, i, hi => by
  rw [List.drop_eq_nil_of_le (by omega)]
  exact Ev.stop fun k => by rw [ledger_Right.l0, if_neg (by omega)]; rfl
 | d + 1, i, hi => by
  have hlt : i < ds.length := by omega
  rw [List.drop_eq_getElem_cons hlt, rightF]
  refine Ev.step (fun k => by rw [ledger_Right.l0, if_pos (by omega), if_pos (by omega), if_pos (by omega), rdD ds i hlt]) ?_
  refine Ev.bind (dright_f ds[i] (ha _ (List.getElem_mem _)) first next ds) ?_
  by_cases c : okD first next ds[i] = true
  ·refine Ev.congr (fun k => by rw [if_pos c, if_pos (by omega), Int.toNat_natCast]) ?_
   rw [c, Bool.true_and]
   unfold ledger_place.f
   refine Ev.congr (fun k => by rw [bsome]) ?_
   by_cases c2 : plN (ds.take i) ds[i].f0 < (ds.take i).length
   ·rw [decide_eq_true c2, plI_pos c2]
    exact Ev.congr (fun k => by rw [if_pos (by omega)]; rfl) (Ev.now _)
   ·rw [decide_eq_false c2, plI_neg c2]
    refine Ev.congr (fun k => by rw [if_neg (by omega), w_succ (by omega)]) ?_
    have := right_l0 first next ds hl ha d (i + 1) (by omega)
    rw [List.take_succ_eq_append_getElem hlt] at this
    simpa using this
  ·have e : okD first next ds[i] = false := by simpa using c
   rw [e, Bool.false_and, Bool.false_and]
   exact Ev.congr (fun k => by rw [if_neg (by decide)]) (Ev.now _)
theorem right_f (first next : Int) (ds : List D) (hl : ds.length ≤ 1000000000000000000) (ha : ∀ d ∈ ds, d.f3.length ≤ 1000000000000000000) : Ev (fun k => ledger_Right.f k first next ds) (rightL first next ds) := by
 have hb : ∀ b : Bool, Ev (fun k => ledger_Right.j0 k b first next ds) (!b && rightF first next [] ds) := fun b => by
  cases b
  ·refine Ev.step (fun k => by rw [ledger_Right.j0, if_neg (by decide)]) ?_
   have := right_l0 first next ds hl ha ds.length 0 (by omega)
   simpa using this
  ·exact Ev.stop fun k => by rw [ledger_Right.j0, if_pos rfl]; rfl
 unfold rightL
 by_cases c1 : first < 1
 ·refine Ev.congr (fun k => by rw [ledger_Right.f, if_pos c1]) ?_
  have := hb true
  rw [decide_eq_false (show ¬ 1 ≤ first by omega)]
  simpa using this
 ·by_cases c2 : first > next
  ·refine Ev.congr (fun k => by rw [ledger_Right.f, if_neg c1, if_pos c2]) ?_
   have := hb true
   rw [decide_eq_false (show ¬ first ≤ next by omega)]
   simpa using this
  ·refine Ev.congr (fun k => by rw [ledger_Right.f, if_neg c1, if_neg c2]) ?_
   have := hb (decide ((ds.length : Int) > 4))
   have e3 : (!decide ((ds.length : Int) > 4)) = decide (ds.length ≤ 4) := by
    by_cases c3 : (ds.length : Int) > 4
    ·rw [decide_eq_true c3, decide_eq_false (by omega)]; rfl
    ·rw [decide_eq_false c3, decide_eq_true (by omega)]; rfl
   rw [e3] at this
   rw [decide_eq_true (show 1 ≤ first by omega), decide_eq_true (show first ≤ next by omega)]
   simpa using this

/-! ### 2. .. as the document has it -/
/-! ### 3. a ledger's bytes -/
def delt : Int → List Int → List Int
 | _, [] => []
 | last, a :: r => IntKind.u64.wrap (a - last) :: delt a r
def encD (d : D) : List UInt8 := encT (ls d.f0) ++ encs [d.f1, d.f2, d.f4, d.f5, d.f6, (d.f3.length : Int)] ++ encs (delt d.f2 d.f3)
def encL (first next : Int) (ds : List D) : List UInt8 := encs [first, next, (ds.length : Int)] ++ ds.flatMap encD
theorem encs_nil : encs [] = [] := rfl
theorem encs_cons (x : Int) (l : List Int) : encs (x :: l) = enc x.toNat ++ encs l := rfl
theorem delt_u : ∀ (l : List Int) (last : Int), ∀ x ∈ delt last l, U x
 | [], _, x, h => by cases h
 | a :: r, last, x, h => by
  rcases List.mem_cons.1 h with rfl | h
  ·exact u_wrap _
  ·exact delt_u r a x h
theorem delt_len : ∀ (l : List Int) (last : Int), (delt last l).length = l.length
 | [], _ => rfl
 | a :: r, last => by simp only [delt, List.length_cons, delt_len r a]
theorem ls_len (s : ByteArray) : (ls s).length = s.size := by simp [ls]
theorem encT_len {l : List UInt8} (h : l.length < 18446744073709551616) : (encT l).length ≤ l.length + 10 := by
 unfold encT; rw [List.length_append]; have := enc_len10 h; omega
structure Fits (d : D) : Prop extends WFD d where
 len : d.f3.length ≤ 1000000
 nm : d.f0.size ≤ 20
theorem numbers_f {l : List Int} (h : l.length ≤ 1000) (hu : ∀ x ∈ l, U x) : mark_numbers.f l = some (bs (encs l)) := by
 unfold mark_numbers.f; rw [if_pos ⟨h, hu⟩]
theorem Fits.head {d : D} (h : Fits d) : ∀ x ∈ [d.f1, d.f2, d.f4, d.f5, d.f6, (d.f3.length : Int)], U x := by
 intro x hx
 simp only [List.mem_cons, List.not_mem_nil, or_false] at hx
 have := h.len
 rcases hx with rfl | rfl | rfl | rfl | rfl | rfl
 ·exact h.f1
 ·exact h.f2
 ·exact h.f4
 ·exact h.f5
 ·exact h.f6
 ·unfold U; omega
theorem encD_len {d : D} (h : Fits d) : (encD d).length ≤ 100 + 10 * d.f3.length := by
 unfold encD
 rw [List.length_append, List.length_append]
 have h1 := encT_len (l := ls d.f0) (by rw [ls_len]; have := h.nm; omega)
 have h2 := encs_len h.head
 have h3 := encs_len (l := delt d.f2 d.f3) (delt_u _ _)
 rw [delt_len] at h3
 rw [ls_len] at h1
 have := h.nm
 simp only [List.length_cons, List.length_nil] at h2
 omega
theorem put_l1 (v : ByteArray × Int) (ds : List D) (n i : Int) (ab : List Int) (hl : ab.length ≤ 1000000) (hu : ∀ a ∈ ab, U a) : ∀ (m j : Nat) (acc : List UInt8) (last : Int), j + m = ab.length → acc.length + 10 * m ≤ 1000000000000 →
  Ev (fun k => mark_Put.l0 k (bs (acc ++ encs (delt last (ab.drop j)))) ds n (wrap64 (i + 1))) v → Ev (fun k => mark_Put.l1 k (bs acc) last ds n i ab (ab.length : Int) (j : Int)) v
 | 0, j, acc, last, hj, ha, hc => by
  rw [List.drop_eq_nil_of_le (by omega), delt, encs_nil, List.append_nil] at hc
  exact Ev.step (fun k => by rw [mark_Put.l1, if_neg (by omega)]) hc
 | m + 1, j, acc, last, hj, ha, hc => by
  have hlt : j < ab.length := by omega
  have hx := enc_len10 (n := (IntKind.u64.wrap (ab[j] - last)).toNat) (by have := u_wrap (ab[j] - last); unfold U at this; omega)
  rw [List.drop_eq_getElem_cons hlt, delt, encs_cons, ← List.append_assoc] at hc
  refine Ev.step (fun k => by rw [mark_Put.l1, if_pos (by omega), if_pos (by omega), if_pos (by omega), rd_at ab j hlt, numbers_f (by simp) (by intro x hx; rw [List.mem_singleton] at hx; subst hx; exact u_wrap _), bsome, bs_size, bs_size, if_pos (by rw [encs_cons, encs_nil, List.append_nil]; omega), bs_app, encs_cons, encs_nil, List.append_nil, w_succ (by omega)]) ?_
  exact put_l1 v ds n i ab hl hu m (j + 1) _ _ (by omega) (by rw [List.length_append]; omega) hc
theorem put_l0 (ds : List D) (hl : ds.length ≤ 1000) (hf : ∀ d ∈ ds, Fits d) : ∀ (m i : Nat) (acc : List UInt8), i + m = ds.length → acc.length + 100000000 * m ≤ 1000000000000 →
  Ev (fun k => mark_Put.l0 k (bs acc) ds (ds.length : Int) (i : Int)) (bs (acc ++ (ds.drop i).flatMap encD), 0)
 | 0, i, acc, hi, ha => by
  rw [List.drop_eq_nil_of_le (by omega)]
  exact Ev.stop fun k => by rw [mark_Put.l0, if_neg (by omega)]; simp
 | m + 1, i, acc, hi, ha => by
  have hlt : i < ds.length := by omega
  obtain ⟨d, hd⟩ : ∃ d, ds[i] = d := ⟨_, rfl⟩
  have hF := hf d (hd ▸ List.getElem_mem hlt)
  have h1 := encT_len (l := ls d.f0) (by rw [ls_len]; have := hF.nm; omega)
  have h2 := encs_len hF.head
  have h3 := encs_len (l := delt d.f2 d.f3) (delt_u _ _)
  have hlen := hF.len
  have hnm := hF.nm
  rw [delt_len] at h3
  rw [ls_len] at h1
  simp only [List.length_cons, List.length_nil] at h2
  have hc := put_l0 ds hl hf m (i + 1) (acc ++ encD d) (by omega) (by rw [List.length_append]; have := encD_len hF; omega)
  rw [List.drop_eq_getElem_cons hlt, hd, List.flatMap_cons, ← List.append_assoc]
  have hpt : ∀ k, 10 ≤ k → num_PutText.f k d.f0 = some (bs (encT (ls d.f0))) := fun k hk => putText_f (l := ls d.f0) (by rw [ls_len]; omega) hk
  refine Ev.step (fun k => by rw [mark_Put.l0, if_pos (by omega), if_pos (by omega), if_pos (by omega), rdD ds i hlt, hd]) ?_
  refine Ev.bind (Ev.from 10 hpt) ?_
  refine Ev.congr (fun k => by rw [u_id (x := (d.f3.length : Int)) (by unfold U; omega), numbers_f (by simp) hF.head, bsome, bs_size, bs_size, if_pos (by omega), bs_app, bs_size, if_pos (by rw [bs_size, List.length_append]; omega), bs_app]) ?_
  refine put_l1 _ ds (ds.length : Int) (i : Int) d.f3 hlen hF.f3 d.f3.length 0 _ d.f2 (by omega) (by simp only [List.length_append]; omega) ?_
  rw [w_succ (by omega), List.drop_zero, List.append_assoc acc, ]
  exact hc
theorem rightF_name : ∀ (l p : List D) (first next : Int), rightF first next p l = true → ∀ d ∈ l, nameOk (ls d.f0) = true
 | [], _, _, _, _, d, h => by cases h
 | x :: r, p, first, next, h, d, hd => by
  simp only [rightF, Bool.and_eq_true] at h
  rcases List.mem_cons.1 hd with rfl | hd
  ·have := h.1.1
   unfold okD at this
   simp only [Bool.and_eq_true] at this
   exact this.1.1.1.1
  ·exact rightF_name r _ first next h.2 d hd
theorem rightL_name {l : List D} {first next : Int} (h : rightL first next l = true) : l.length ≤ 4 ∧ ∀ d ∈ l, nameOk (ls d.f0) = true ∧ d.f0.size ≤ 20 := by
 unfold rightL at h
 simp only [Bool.and_eq_true, decide_eq_true_eq] at h
 refine ⟨h.1.2, fun d hd => ?_⟩
 have hn := rightF_name l [] first next h.2 d hd
 refine ⟨hn, ?_⟩
 unfold nameOk at hn
 simp only [Bool.and_eq_true, decide_eq_true_eq] at hn
 have := hn.1.1
 rwa [ls_len] at this
structure WFL (first next : Int) (ds : List D) : Prop where
 first : U first
 next : U next
 all : ∀ d ∈ ds, WFD d ∧ d.f3.length ≤ 1000000
theorem WFL.fits {first next : Int} {ds : List D} (h : WFL first next ds) (hr : rightL first next ds = true) : ∀ d ∈ ds, Fits d := fun d hd =>
 { toWFD := (h.all d hd).1, len := (h.all d hd).2, nm := ((rightL_name hr).2 d hd).2 }
theorem head3 {first next : Int} {ds : List D} (h : WFL first next ds) (hl : ds.length ≤ 1000) : ∀ x ∈ [first, next, (ds.length : Int)], U x := by
 intro x hx
 simp only [List.mem_cons, List.not_mem_nil, or_false] at hx
 rcases hx with rfl | rfl | rfl
 ·exact h.first
 ·exact h.next
 ·unfold U; omega
theorem mput_f {first next : Int} {ds : List D} (h : WFL first next ds) (hl : ds.length ≤ 1000000000000000000) : Ev (fun k => mark_Put.f k first next ds) (if rightL first next ds = true then (bs (encL first next ds), 0) else (⟨#[]⟩, 1)) := by
 refine Ev.bind (right_f first next ds hl (fun d hd => by have := (h.all d hd).2; omega)) ?_
 by_cases c : rightL first next ds = true
 ·have h4 := (rightL_name c).1
  have hh := head3 h (by omega)
  have h2 := encs_len hh
  simp only [List.length_cons, List.length_nil] at h2
  rw [if_pos c]
  refine Ev.congr (fun k => by rw [if_pos c, u_id (x := (ds.length : Int)) (by unfold U; omega), numbers_f (by simp) hh, bsome]) ?_
  have := put_l0 ds (by omega) (h.fits c) ds.length 0 (encs [first, next, (ds.length : Int)]) (by omega) (by omega)
  simpa [encL] using this
 ·rw [if_neg c]
  exact Ev.congr (fun k => if_neg c) (Ev.now _)

/-! ### 4. taking -/
theorem num_some {t r : List UInt8} {n : Nat} (bad : Bool) (hl : t.length ≤ 140737488351232) (h : dec 0 t = some (n, r)) : Ev (fun k => mark_reader_number.f k (bs t) bad) ((n : Int), bs r, bad) := by
 have ht : takeP t = ((n : Int), bs r, 0) := by unfold takeP; rw [h]
 refine Ev.bind (Ev.from 40 fun k hk => take_f hl hk) ?_
 rw [ht]
 cases bad
 ·exact Ev.congr (fun k => if_neg (by decide)) (Ev.now _)
 ·exact Ev.congr (fun k => if_pos rfl) (Ev.now _)
theorem num_none {t : List UInt8} (bad : Bool) (hl : t.length ≤ 140737488351232) (h : dec 0 t = none) : Ev (fun k => mark_reader_number.f k (bs t) bad) (0, bs [], true) := by
 have ht : takeP t = (0, bs [], 2) := by unfold takeP; rw [h]
 refine Ev.bind (Ev.from 40 fun k hk => take_f hl hk) ?_
 rw [ht]
 cases bad
 ·exact Ev.congr (fun k => if_neg (by decide)) (Ev.now _)
 ·exact Ev.congr (fun k => if_pos rfl) (Ev.now _)
/-- A number is taken, whatever there is. -/
theorem num_any (t : List UInt8) (bad : Bool) (hl : t.length ≤ 140737488351232) : ∃ (n : Int) (r : List UInt8) (b : Bool), Ev (fun k => mark_reader_number.f k (bs t) bad) (n, bs r, b) ∧ U n ∧ r.length ≤ t.length ∧ (b = false → bad = false ∧ r.length < t.length) := by
 rcases h : dec 0 t with _ | ⟨n, r⟩
 ·exact ⟨0, [], true, num_none bad hl h, by unfold U; omega, by simp, fun h => by cases h⟩
 ·obtain ⟨e, hn⟩ := dec_some h
  have hp := enc_pos n
  have hlen : t.length = (enc n).length + r.length := by rw [e, List.length_append]
  exact ⟨n, r, bad, num_some bad hl h, by unfold U; omega, by omega, fun h => ⟨h, by omega⟩⟩
/-- .. and one that was put is taken. -/
theorem num_put (x : Int) (r : List UInt8) (bad : Bool) (hx : U x) (hl : (enc x.toNat ++ r).length ≤ 140737488351232) : Ev (fun k => mark_reader_number.f k (bs (enc x.toNat ++ r)) bad) (x, bs r, bad) := by
 have h := num_some bad hl (dec_put (n := x.toNat) (by unfold U at hx; omega) r)
 rwa [Int.toNat_of_nonneg hx.1] at h
theorem dl0_bad (last n : Int) (s : ByteArray) (nm : ByteArray) (a b : Int) (ab : List Int) (c d e : Int) : Ev (fun k => mark_reader_dest.l0 k last n s true nm a b ab c d e) (nm, a, b, ab, c, d, e, s, true) := by
 refine Ev.stop fun k => ?_
 rw [mark_reader_dest.l0]
 by_cases c : n > 0
 ·rw [if_pos c, if_pos rfl]
 ·rw [if_neg c]
theorem dl0_any (nm : ByteArray) (a b c d e : Int) : ∀ (m : Nat) (t : List UInt8) (last n : Int) (ab : List Int) (bad : Bool), t.length ≤ m → m ≤ 1000000 → U n → (∀ x ∈ ab, U x) → ab.length + m ≤ 1000000 →
  ∃ (ab' : List Int) (r : List UInt8) (b' : Bool), Ev (fun k => mark_reader_dest.l0 k last n (bs t) bad nm a b ab c d e) (nm, a, b, ab', c, d, e, bs r, b') ∧ (∀ x ∈ ab', U x) ∧ ab'.length ≤ ab.length + m + 1 ∧ r.length ≤ t.length ∧ (b' = false → bad = false)
 | m, t, last, n, ab, bad, hm, hM, hn, hu, hab => by
  cases bad
  ·by_cases c0 : n > 0
   ·obtain ⟨x, r, b', h1, h2, h3, h4⟩ := num_any t false (by omega)
    have hs : ∀ k, mark_reader_dest.l0 (k + 1) last n (bs t) false nm a b ab c d e = (mark_reader_number.f k (bs t) false).bind fun bt169 => mark_reader_dest.l0 k (IntKind.u64.wrap (last + bt169.1)) (IntKind.u64.wrap (n - 1)) bt169.2.1 bt169.2.2 nm a b (ab ++ [IntKind.u64.wrap (last + bt169.1)]) c d e := fun k => by
     rw [mark_reader_dest.l0, if_pos c0, if_neg (by decide)]
     congr 1; funext z; rw [if_pos (by omega)]
    have hu' : ∀ y ∈ ab ++ [IntKind.u64.wrap (last + x)], U y := fun y hy => by
     rcases List.mem_append.1 hy with hy | hy
     ·exact hu y hy
     ·rw [List.mem_singleton] at hy; subst hy; exact u_wrap _
    cases b' with
    | true =>
     exact ⟨ab ++ [IntKind.u64.wrap (last + x)], r, true, Ev.step hs (Ev.bind h1 (dl0_bad _ _ _ _ _ _ _ _ _ _)), hu', by simp only [List.length_append, List.length_cons, List.length_nil]; omega, h3, fun h => by cases h⟩
    | false =>
     have h5 := (h4 rfl).2
     match m, hm with
     | 0, hm => omega
     | m + 1, hm =>
      obtain ⟨ab', r', b', g1, g2, g3, g4, g5⟩ := dl0_any nm a b c d e m r (IntKind.u64.wrap (last + x)) (IntKind.u64.wrap (n - 1)) (ab ++ [IntKind.u64.wrap (last + x)]) false (by omega) (by omega) (u_wrap _) hu' (by simp only [List.length_append, List.length_cons, List.length_nil]; omega)
      simp only [List.length_append, List.length_cons, List.length_nil] at g3
      exact ⟨ab', r', b', Ev.step hs (Ev.bind h1 g1), g2, by omega, by omega, fun _ => rfl⟩
   ·exact ⟨ab, t, false, Ev.stop fun k => by rw [mark_reader_dest.l0, if_neg c0], hu, by omega, Nat.le_refl _, fun _ => rfl⟩
  ·exact ⟨ab, t, true, dl0_bad _ _ _ _ _ _ _ _ _ _, hu, by omega, Nat.le_refl _, id⟩
def out7 (d : D) (r : List UInt8) (b : Bool) : ByteArray × Int × Int × List Int × Int × Int × Int × ByteArray × Bool := (d.f0, d.f1, d.f2, d.f3, d.f4, d.f5, d.f6, bs r, b)
theorem takeTP_any (t : List UInt8) : ∃ (x y : List UInt8) (e : Int), takeTP t 20 = (bs x, bs y, e) ∧ y.length ≤ t.length ∧ (e = 0 → y.length < t.length) := by
 unfold takeTP
 rcases h : dec 0 t with _ | ⟨n, r⟩
 ·exact ⟨[], [], 2, rfl, by simp, fun h => by cases h⟩
 ·obtain ⟨e, hn⟩ := dec_some h
  have hp := enc_pos n
  have hlen : t.length = (enc n).length + r.length := by rw [e, List.length_append]
  simp only
  split
  ·exact ⟨[], [], 7, rfl, by simp, fun h => by cases h⟩
  ·split
   ·exact ⟨[], [], 2, rfl, by simp, fun h => by cases h⟩
   ·exact ⟨_, _, 0, rfl, by rw [List.length_drop]; omega, fun _ => by rw [List.length_drop]; omega⟩
theorem dest_any (t : List UInt8) (bad : Bool) (hl : t.length ≤ 500000) : ∃ (d : D) (r : List UInt8) (b : Bool), Ev (fun k => mark_reader_dest.f k (bs t) bad) (out7 d r b) ∧ WFD d ∧ d.f3.length ≤ 1000000 ∧ r.length ≤ t.length ∧ (b = false → bad = false ∧ r.length < t.length) := by
 obtain ⟨x, y, e, h0, hy, he⟩ := takeTP_any t
 obtain ⟨b0, hb0⟩ : ∃ b0, b0 = (bad || e != 0) := ⟨_, rfl⟩
 have hb0' : b0 = false → bad = false ∧ y.length < t.length := fun h => by
  rw [h] at hb0
  have h2 := hb0.symm
  simp only [Bool.or_eq_false_iff, bne_eq_false_iff_eq] at h2
  exact ⟨h2.1, he h2.2⟩
 obtain ⟨n1, t1, b1, g1, u1, l1, z1⟩ := num_any y b0 (by omega)
 obtain ⟨n2, t2, b2, g2, u2, l2, z2⟩ := num_any t1 b1 (by omega)
 obtain ⟨n3, t3, b3, g3, u3, l3, z3⟩ := num_any t2 b2 (by omega)
 obtain ⟨n4, t4, b4, g4, u4, l4, z4⟩ := num_any t3 b3 (by omega)
 obtain ⟨n5, t5, b5, g5, u5, l5, z5⟩ := num_any t4 b4 (by omega)
 obtain ⟨n6, t6, b6, g6, u6, l6, z6⟩ := num_any t5 b5 (by omega)
 obtain ⟨ab, r, b, g, gu, gl, gr, gb⟩ := dl0_any (bs x) n1 n2 n3 n4 n5 t6.length t6 n2 n6 [] b6 (Nat.le_refl _) (by omega) u6 (fun _ h => by cases h) (by simp; omega)
 refine ⟨⟨bs x, n1, n2, ab, n3, n4, n5⟩, r, b, ?_, ⟨u1, u2, gu, u3, u4, u5⟩, by show ab.length ≤ 1000000; simp only [List.length_nil] at gl; omega, by omega, fun h => ?_⟩
 ·refine Ev.bind (Ev.from 40 fun k hk => takeText_f (by omega) (by omega) hk) ?_
  rw [h0]
  have hj : Ev (fun k => mark_reader_dest.j0 k (bs x) (bs y) b0) (out7 ⟨bs x, n1, n2, ab, n3, n4, n5⟩ r b) := by
   refine Ev.step (fun k => by rw [mark_reader_dest.j0]) ?_
   exact Ev.bind g1 (Ev.bind g2 (Ev.bind g3 (Ev.bind g4 (Ev.bind g5 (Ev.bind g6 g)))))
  rw [hb0] at hj
  cases bad
  ·exact Ev.congr (fun k => if_neg (by decide)) hj
  ·exact Ev.congr (fun k => if_pos rfl) hj
 ·have a6 := z6 (gb h)
  have a5 := z5 a6.1
  have a4 := z4 a5.1
  have a3 := z3 a4.1
  have a2 := z2 a3.1
  have a1 := z1 a2.1
  have a0 := hb0' a1.1
  exact ⟨a0.1, by omega⟩

/-! ### 5. what was put is taken -/
theorem wr_back {a last : Int} (ha : U a) : IntKind.u64.wrap (last + IntKind.u64.wrap (a - last)) = a := by
 simp only [u64_wrap]; unfold U at ha; omega
theorem enc_pref (x : Int) (l r : List UInt8) : enc x.toNat ++ l ++ r = enc x.toNat ++ (l ++ r) := List.append_assoc _ _ _
theorem dl0_put (nm : ByteArray) (a b c d e : Int) : ∀ (l : List Int) (last : Int) (ab : List Int) (r : List UInt8), (∀ x ∈ l, U x) → l.length ≤ 1000000 → ab.length + l.length ≤ 1000000 → (encs (delt last l) ++ r).length ≤ 140737488351232 →
  Ev (fun k => mark_reader_dest.l0 k last (l.length : Int) (bs (encs (delt last l) ++ r)) false nm a b ab c d e) (nm, a, b, ab ++ l, c, d, e, bs r, false)
 | [], last, ab, r, _, _, _, _ => by
  refine Ev.stop fun k => ?_
  rw [mark_reader_dest.l0, if_neg (by simp)]
  simp [delt, encs_nil]
 | x :: l, last, ab, r, hu, hl, hab, hsz => by
  have hx := hu x (by simp)
  simp only [List.length_cons] at hl hab
  have e1 : IntKind.u64.wrap (((l.length + 1 : Nat) : Int) - 1) = (l.length : Int) := by rw [u64_id (by omega) (by omega)]; omega
  have hs : ∀ (t : ByteArray) (k : Nat), mark_reader_dest.l0 (k + 1) last ((l.length + 1 : Nat) : Int) t false nm a b ab c d e = (mark_reader_number.f k t false).bind fun bt169 => mark_reader_dest.l0 k (IntKind.u64.wrap (last + bt169.1)) (l.length : Int) bt169.2.1 bt169.2.2 nm a b (ab ++ [IntKind.u64.wrap (last + bt169.1)]) c d e := fun t k => by
   rw [mark_reader_dest.l0, if_pos (by omega), if_neg (by decide), e1]
   congr 1; funext z; rw [if_pos (by omega)]
  simp only [delt, encs_cons, enc_pref] at hsz ⊢
  rw [List.length_cons]
  refine Ev.step (hs _) ?_
  refine Ev.bind (num_put _ _ false (u_wrap _) hsz) ?_
  simp only
  rw [wr_back hx]
  have := dl0_put nm a b c d e l x (ab ++ [x]) r (fun y hy => hu y (by simp [hy])) (by omega) (by simp only [List.length_append, List.length_cons, List.length_nil]; omega) (by rw [List.length_append] at hsz; omega)
  rwa [List.append_assoc, List.singleton_append] at this
theorem takeTP_encT (t r : List UInt8) (h : t.length ≤ 20) : takeTP (encT t ++ r) 20 = (bs t, bs r, 0) := by
 unfold takeTP encT
 rw [List.append_assoc, dec_put (by omega)]
 simp only
 rw [if_neg (by rw [show mx 20 0 = 20 by decide +kernel]; omega), if_neg (by rw [List.length_append]; omega), List.take_left', List.drop_left'] <;> rfl
theorem six_bytes (x1 x2 x3 x4 x5 x6 : Int) (r : List UInt8) : encs [x1, x2, x3, x4, x5, x6] ++ r = enc x1.toNat ++ (enc x2.toNat ++ (enc x3.toNat ++ (enc x4.toNat ++ (enc x5.toNat ++ (enc x6.toNat ++ r))))) := by
 simp only [encs_cons, encs_nil, List.append_nil, List.append_assoc]
theorem three_bytes (x1 x2 x3 : Int) (r : List UInt8) : encs [x1, x2, x3] ++ r = enc x1.toNat ++ (enc x2.toNat ++ (enc x3.toNat ++ r)) := by
 simp only [encs_cons, encs_nil, List.append_nil, List.append_assoc]
theorem dest_put (d : D) (hF : Fits d) (r : List UInt8) (hl : (encD d ++ r).length ≤ 140737488351232) : Ev (fun k => mark_reader_dest.f k (bs (encD d ++ r)) false) (out7 d r false) := by
 have hlen := hF.len
 have hb : encD d ++ r = encT (ls d.f0) ++ (enc d.f1.toNat ++ (enc d.f2.toNat ++ (enc d.f4.toNat ++ (enc d.f5.toNat ++ (enc d.f6.toNat ++ (enc ((d.f3.length : Int)).toNat ++ (encs (delt d.f2 d.f3) ++ r))))))) := by
  unfold encD; rw [List.append_assoc, List.append_assoc, six_bytes]
 rw [hb] at hl ⊢
 have hls : ∀ {x y : List UInt8}, (x ++ y).length ≤ 140737488351232 → y.length ≤ 140737488351232 := fun h => by rw [List.length_append] at h; omega
 refine Ev.bind (Ev.from 40 fun k hk => takeText_f (by omega) hl hk) ?_
 rw [takeTP_encT _ _ (by rw [ls_len]; exact hF.nm)]
 refine Ev.congr (fun k => if_neg (by decide)) ?_
 refine Ev.step (fun k => by rw [mark_reader_dest.j0]) ?_
 have l1 := hls hl
 have l2 := hls l1
 have l3 := hls l2
 have l4 := hls l3
 have l5 := hls l4
 have l6 := hls l5
 have l7 := hls l6
 refine Ev.bind (num_put _ _ _ hF.f1 l1) (Ev.bind (num_put _ _ _ hF.f2 l2) (Ev.bind (num_put _ _ _ hF.f4 l3) (Ev.bind (num_put _ _ _ hF.f5 l4) (Ev.bind (num_put _ _ _ hF.f6 l5) (Ev.bind (num_put _ _ _ (by unfold U; omega) l6) ?_)))))
 have := dl0_put (bs (ls d.f0)) d.f1 d.f2 d.f4 d.f5 d.f6 d.f3 d.f2 [] r hF.f3 hlen (by simpa using hlen) l7
 exact this
def err0 : Int × Int × List D × Int := (0, 0, [], 2)
theorem tl0_end (s : ByteArray) (n first next : Int) (t : ByteArray) (bad : Bool) (ds : List D) (h : WFL first next ds) (hl : ds.length ≤ 1000000) (hn : n > 0 → bad = true) :
  Ev (fun k => mark_Take.l0 k s n t bad first next ds) (if bad = false ∧ rightL first next ds = true ∧ s = bs (encL first next ds) then (first, next, ds, 0) else err0) := by
 have hp := mput_f h (by omega)
 obtain ⟨res, hres⟩ : ∃ res, res = (if bad = false ∧ rightL first next ds = true ∧ s = bs (encL first next ds) then (first, next, ds, 0) else err0) := ⟨_, rfl⟩
 have hT : bad = false ∧ rightL first next ds = true ∧ s = bs (encL first next ds) → res = (first, next, ds, 0) := fun c => by rw [hres, if_pos c]
 have hF : ¬ (bad = false ∧ rightL first next ds = true ∧ s = bs (encL first next ds)) → res = err0 := fun c => by rw [hres, if_neg c]
 rw [← hres]
 clear hres
 by_cases c0 : n > 0
 ·have hb := hn c0
  subst hb
  rw [hF (fun h => by cases h.1)]
  exact Ev.step (fun k => by rw [mark_Take.l0, if_pos c0, if_pos rfl]) (Ev.bind hp (Ev.now _))
 ·refine Ev.step (fun k => by rw [mark_Take.l0, if_neg c0]) (Ev.bind hp ?_)
  cases bad
  ·refine Ev.congr (fun k => if_neg (by decide)) ?_
   by_cases c1 : rightL first next ds = true
   ·rw [if_pos c1]
    refine Ev.congr (fun k => if_pos rfl) ?_
    by_cases c2 : s = bs (encL first next ds)
    ·rw [hT ⟨rfl, c1, c2⟩]
     exact Ev.congr (fun k => if_pos (by rw [c2])) (Ev.now _)
    ·rw [hF (fun h => c2 h.2.2)]
     refine Ev.congr (fun k => if_neg (fun h => c2 ?_)) (Ev.now _)
     obtain ⟨l, rfl⟩ := bs_list s
     simp only [bs_toList] at h
     rw [h]
   ·rw [if_neg c1, hF (fun h => c1 h.2.1)]
    exact Ev.congr (fun k => if_neg (by decide)) (Ev.now _)
  ·rw [hF (fun h => by cases h.1)]
   exact Ev.congr (fun k => if_pos rfl) (Ev.now _)
def Told (s : ByteArray) (r : Int × Int × List D × Int) : Prop := r = err0 ∨ ∃ first next ds, r = (first, next, ds, 0) ∧ WFL first next ds ∧ rightL first next ds = true ∧ s = bs (encL first next ds)
theorem told_if (s : ByteArray) (first next : Int) (ds : List D) (bad : Bool) (h : WFL first next ds) : Told s (if bad = false ∧ rightL first next ds = true ∧ s = bs (encL first next ds) then (first, next, ds, 0) else err0) := by
 by_cases c : bad = false ∧ rightL first next ds = true ∧ s = bs (encL first next ds)
 ·rw [if_pos c]; exact .inr ⟨first, next, ds, rfl, h, c.2.1, c.2.2⟩
 ·rw [if_neg c]; exact .inl rfl
theorem wfl_snoc {first next : Int} {ds : List D} {d : D} (h : WFL first next ds) (hd : WFD d) (hl : d.f3.length ≤ 1000000) : WFL first next (ds ++ [d]) :=
 ⟨h.first, h.next, fun x hx => by
  rcases List.mem_append.1 hx with hx | hx
  ·exact h.all x hx
  ·rw [List.mem_singleton] at hx; subst hx; exact ⟨hd, hl⟩⟩
theorem tl0_any (s : ByteArray) (first next : Int) : ∀ (m : Nat) (t : List UInt8) (n : Int) (bad : Bool) (ds : List D), t.length ≤ m → m ≤ 500000 → ds.length + m ≤ 900000 → WFL first next ds → U n →
  ∃ r, Ev (fun k => mark_Take.l0 k s n (bs t) bad first next ds) r ∧ Told s r
 | m, t, n, bad, ds, hm, hM, hd, h, hn => by
  by_cases c : n > 0 ∧ bad = false
  ·obtain ⟨c0, rfl⟩ := c
   obtain ⟨d, r, b, g, w, gl, gr, gb⟩ := dest_any t false (by omega)
   have hs : ∀ k, mark_Take.l0 (k + 1) s n (bs t) false first next ds = (mark_reader_dest.f k (bs t) false).bind fun bt189 => mark_Take.l0 k s (IntKind.u64.wrap (n - 1)) bt189.2.2.2.2.2.2.2.1 bt189.2.2.2.2.2.2.2.2 first next (ds ++ [(⟨bt189.1, bt189.2.1, bt189.2.2.1, bt189.2.2.2.1, bt189.2.2.2.2.1, bt189.2.2.2.2.2.1, bt189.2.2.2.2.2.2.1⟩ : D)]) := fun k => by
    rw [mark_Take.l0, if_pos c0, if_neg (by decide)]
    congr 1; funext z; rw [if_pos (by omega)]
   have hw := wfl_snoc h w gl
   cases b with
   | true =>
    exact ⟨_, Ev.step hs (Ev.bind g (tl0_end s _ first next (bs r) true (ds ++ [d]) hw (by simp only [List.length_append, List.length_cons, List.length_nil]; omega) (fun _ => rfl))), told_if _ _ _ _ _ hw⟩
   | false =>
    have := (gb rfl).2
    match m, hm with
    | 0, hm => omega
    | m + 1, hm =>
     obtain ⟨q, hq, hT⟩ := tl0_any s first next m r (IntKind.u64.wrap (n - 1)) false (ds ++ [d]) (by omega) (by omega) (by simp only [List.length_append, List.length_cons, List.length_nil]; omega) hw (u_wrap _)
     exact ⟨q, Ev.step hs (Ev.bind g hq), hT⟩
  ·exact ⟨_, tl0_end s n first next (bs t) bad ds h (by omega) (fun c0 => by
    cases bad
    ·exact absurd ⟨c0, rfl⟩ c
    ·rfl), told_if _ _ _ _ _ h⟩
theorem mtake_any (s : List UInt8) (hl : s.length ≤ 500000) : ∃ r, Ev (fun k => mark_Take.f k (bs s)) r ∧ Told (bs s) r := by
 obtain ⟨n1, t1, b1, g1, u1, l1, z1⟩ := num_any s false (by omega)
 obtain ⟨n2, t2, b2, g2, u2, l2, z2⟩ := num_any t1 b1 (by omega)
 obtain ⟨n3, t3, b3, g3, u3, l3, z3⟩ := num_any t2 b2 (by omega)
 obtain ⟨r, hr, hT⟩ := tl0_any (bs s) n1 n2 t3.length t3 n3 b3 [] (Nat.le_refl _) (by omega) (by simp; omega) ⟨u1, u2, fun d hd => by cases hd⟩ u3
 exact ⟨r, Ev.bind g1 (Ev.bind g2 (Ev.bind g3 hr)), hT⟩
theorem tl0_put (s : ByteArray) (first next : Int) : ∀ (l ds : List D) (r : List UInt8), (∀ d ∈ l, Fits d) → WFL first next ds → ds.length + l.length ≤ 1000 → (l.flatMap encD ++ r).length ≤ 140737488351232 →
  Ev (fun k => mark_Take.l0 k s (l.length : Int) (bs (l.flatMap encD ++ r)) false first next ds) (if rightL first next (ds ++ l) = true ∧ s = bs (encL first next (ds ++ l)) then (first, next, ds ++ l, 0) else err0)
 | [], ds, r, _, h, hl, _ => by
  have := tl0_end s 0 first next (bs r) false ds h (by omega) (fun h => by omega)
  simpa using this
 | d :: l, ds, r, hf, h, hl, hsz => by
  have hF := hf d (by simp)
  simp only [List.length_cons] at hl
  simp only [List.flatMap_cons, List.append_assoc] at hsz ⊢
  rw [List.length_cons]
  have e1 : IntKind.u64.wrap (((l.length + 1 : Nat) : Int) - 1) = (l.length : Int) := by rw [u64_id (by omega) (by omega)]; omega
  have hs : ∀ (t : ByteArray) (k : Nat), mark_Take.l0 (k + 1) s ((l.length + 1 : Nat) : Int) t false first next ds = (mark_reader_dest.f k t false).bind fun bt189 => mark_Take.l0 k s (l.length : Int) bt189.2.2.2.2.2.2.2.1 bt189.2.2.2.2.2.2.2.2 first next (ds ++ [(⟨bt189.1, bt189.2.1, bt189.2.2.1, bt189.2.2.2.1, bt189.2.2.2.2.1, bt189.2.2.2.2.2.1, bt189.2.2.2.2.2.2.1⟩ : D)]) := fun t k => by
   rw [mark_Take.l0, if_pos (by omega), if_neg (by decide), e1]
   congr 1; funext z; rw [if_pos (by omega)]
  refine Ev.step (hs _) (Ev.bind (dest_put d hF _ hsz) ?_)
  have := tl0_put s first next l (ds ++ [d]) r (fun x hx => hf x (by simp [hx])) (wfl_snoc h hF.toWFD hF.len) (by simp only [List.length_append, List.length_cons, List.length_nil]; omega) (by rw [List.length_append] at hsz; omega)
  rwa [List.append_assoc, List.singleton_append] at this
theorem flat_len : ∀ (l : List D), (∀ d ∈ l, Fits d) → (l.flatMap encD).length ≤ 20000000 * l.length
 | [], _ => by simp
 | d :: l, h => by
  have h1 := encD_len (h d (by simp))
  have h2 := (h d (by simp)).len
  have h3 := flat_len l (fun x hx => h x (by simp [hx]))
  rw [List.flatMap_cons, List.length_append, List.length_cons]
  omega
theorem mtake_put {first next : Int} {ds : List D} (h : WFL first next ds) (hr : rightL first next ds = true) : Ev (fun k => mark_Take.f k (bs (encL first next ds))) (first, next, ds, 0) := by
 have hf := h.fits hr
 have h4 := (rightL_name hr).1
 have hfl := flat_len ds hf
 have hh := head3 h (by omega)
 have e : encL first next ds = enc first.toNat ++ (enc next.toNat ++ (enc ((ds.length : Int)).toNat ++ (ds.flatMap encD ++ []))) := by
  unfold encL; rw [three_bytes, List.append_nil]
 have q1 := enc_len10 (n := first.toNat) (by have := h.first; unfold U at this; omega)
 have q2 := enc_len10 (n := next.toNat) (by have := h.next; unfold U at this; omega)
 have q3 := enc_len10 (n := ((ds.length : Int)).toNat) (by omega)
 have hsz : (enc first.toNat ++ (enc next.toNat ++ (enc ((ds.length : Int)).toNat ++ (ds.flatMap encD ++ [])))).length ≤ 140737488351232 := by
  simp only [List.length_append, List.length_nil]; omega
 have hls : ∀ {x y : List UInt8}, (x ++ y).length ≤ 140737488351232 → y.length ≤ 140737488351232 := fun h => by rw [List.length_append] at h; omega
 have l1 := hls hsz
 have l2 := hls l1
 have l3 := hls l2
 have := tl0_put (bs (encL first next ds)) first next ds [] [] hf ⟨h.first, h.next, fun d hd => by cases hd⟩ (by simpa using (by omega : ds.length ≤ 1000)) l3
 rw [List.nil_append, if_pos ⟨hr, rfl⟩] at this
 refine Ev.congr (fun k => by rw [e]) ?_
 rw [e] at this
 exact Ev.bind (num_put _ _ _ h.first hsz) (Ev.bind (num_put _ _ _ h.next l1) (Ev.bind (num_put _ _ _ (by unfold U; omega) l2) this))
end Go.Proofs.YtmbigoeldobaiaaDoor.Mrk
