/- The plain law of chapter 11: ledgers as the document has them, when two are the same; ledgers that are unlike have unlike bytes, whatever stands behind them. Conditions: those that each theorem names. -/
import Derived.Test.YtmbigoeldobaiaaDoorMrkRun
import Derived.Test.YtmbigoeldobaiaaDoorXMrkP1
import Derived.Test.YtmbigoeldobaiaaDoorXMrkP4
import Derived.Test.YtmbigoeldobaiaaDoorXMrkx12
import Derived.Test.YtmbigoeldobaiaaDoorXMrkx14
namespace Go.Proofs.YtmbigoeldobaiaaDoor.Mrk
open Go.Proofs.YtmbigoeldobaiaaDoorW.PrintWords hiding encs
open Go.RowKit Go.Proofs.YtmbigoeldobaiaaDoorW.PrintLast Go.Proofs.YtmbigoeldobaiaaDoorW.PrintMore Go.Proofs.YtmbigoeldobaiaaDoor.Num Go.Proofs.YtmbigoeldobaiaaDoor.XMrk Go.Proofs.YtmbigoeldobaiaaDoor.Nam
set_option linter.unusedVariables false
set_option linter.unusedSimpArgs false
theorem as_l0 (first next : Int) (ds : List D) (hl : ds.length ≤ 1000000000000) : ∀ (m i : Nat), i + m = ds.length → Ev (fun k => postroomlaw11_asLedger.l0 k (i : Int) first next ds first next ((ds.take i).map cv)) (first, next, ds.map cv)
 | 0, i, hi => by
  rw [List.take_of_length_le (by omega)]
  exact Ev.stop fun k => by rw [postroomlaw11_asLedger.l0, if_neg (by omega)]
 | m + 1, i, hi => by
  have hlt : i < ds.length := by omega
  refine Ev.step (fun k => by rw [postroomlaw11_asLedger.l0, if_pos (by omega), if_pos (by omega), if_pos (by rw [List.length_map, List.length_take]; omega), rdD ds i hlt, w_succ (by omega)]) ?_
  have := as_l0 first next ds hl m (i + 1) (by omega)
  rw [List.take_succ_eq_append_getElem hlt, List.map_append] at this
  exact this
theorem as_f (first next : Int) (ds : List D) (hl : ds.length ≤ 1000000000000) : Ev (fun k => postroomlaw11_asLedger.f k first next ds) (first, next, ds.map cv) := by
 have := as_l0 first next ds hl ds.length 0 (by omega)
 exact this
theorem cons_iff {α : Type} {a b : α} {l m : List α} : a :: l = b :: m ↔ a = b ∧ l = m := ⟨fun h => by cases h; exact ⟨rfl, rfl⟩, fun h => by rw [h.1, h.2]⟩
theorem si_gen (a b : List Int) (hl : a.length = b.length) (ha : a.length ≤ 1000000000000) : ∀ (m i : Nat), i + m = a.length → ∃ v, Ev (fun k => postroomref11_sameInts.l0 k a b (i : Int)) v ∧ (v = true ↔ a.drop i = b.drop i)
 | 0, i, hi => ⟨true, Ev.stop fun k => by rw [postroomref11_sameInts.l0, if_neg (by omega)], by rw [List.drop_eq_nil_of_le (by omega), List.drop_eq_nil_of_le (by omega)]; exact ⟨fun _ => rfl, fun _ => rfl⟩⟩
 | m + 1, i, hi => by
  have h1 : i < a.length := by omega
  have h2 : i < b.length := by omega
  rw [List.drop_eq_getElem_cons h1, List.drop_eq_getElem_cons h2]
  by_cases c : a[i] = b[i]
  ·obtain ⟨v, hv, hP⟩ := si_gen a b hl ha m (i + 1) (by omega)
   refine ⟨v, Ev.step (fun k => by rw [postroomref11_sameInts.l0, if_pos (by omega), if_pos (by omega), if_pos (by omega), rd_at a i h1, rd_at b i h2, if_pos c, w_succ (by omega)]) hv, hP.trans ⟨fun h => cons_iff.2 ⟨c, h⟩, fun h => (cons_iff.1 h).2⟩⟩
  ·exact ⟨false, Ev.stop fun k => by rw [postroomref11_sameInts.l0, if_pos (by omega), if_pos (by omega), if_pos (by omega), rd_at a i h1, rd_at b i h2, if_neg c], ⟨fun h => (by cases h), fun h => absurd (cons_iff.1 h).1 c⟩⟩
theorem si_f (a b : List Int) (ha : a.length ≤ 1000000000000) : ∃ v, Ev (fun k => postroomref11_sameInts.f k a b) v ∧ (v = true ↔ a = b) := by
 by_cases c : a.length = b.length
 ·obtain ⟨v, hv, hP⟩ := si_gen a b c ha a.length 0 (by omega)
  exact ⟨v, Ev.congr (fun k => by rw [postroomref11_sameInts.f, if_pos (by omega)]; rfl) hv, by simpa using hP⟩
 ·exact ⟨false, Ev.congr (fun k => by rw [postroomref11_sameInts.f, if_neg (by omega)]) (Ev.now _), by
   constructor
   ·intro h; cases h
   ·intro h; exact absurd (congrArg List.length h) c⟩
theorem ba_inj {a b : ByteArray} (h : a.toList = b.toList) : a = b := by
 obtain ⟨l, rfl⟩ := bs_list a
 obtain ⟨m, rfl⟩ := bs_list b
 rw [bs_toList, bs_toList] at h
 rw [h]
theorem rdR' (l : List R) (i : Nat) (h : i < l.length) : rd_T57 l (i : Int) = l[i] := by
 unfold rd_T57; rw [Int.toNat_natCast, List.getD_eq_getElem?_getD, List.getElem?_eq_getElem h]; rfl
theorem same_gen0 (x y x' y' : Int) (l l' : List R) (hl : l.length = l'.length) (hb : l.length ≤ 1000000000000) (ha : ∀ d ∈ l, d.f3.length ≤ 1000000000000) : ∀ (m i : Nat), i + m = l.length → ∃ v, Ev (fun k => postroomref11_Same.l0 k (i : Int) x y l x' y' l') v ∧ (v = true ↔ l.drop i = l'.drop i)
 | 0, i, hi => ⟨true, Ev.stop fun k => by rw [postroomref11_Same.l0, if_neg (by omega)], by rw [List.drop_eq_nil_of_le (by omega), List.drop_eq_nil_of_le (by omega)]; exact ⟨fun _ => rfl, fun _ => rfl⟩⟩
 | m + 1, i, hi => by
  have h1 : i < l.length := by omega
  have h2 : i < l'.length := by omega
  rw [List.drop_eq_getElem_cons h1, List.drop_eq_getElem_cons h2]
  have hs : ∀ k, postroomref11_Same.l0 (k + 1) (i : Int) x y l x' y' l' = if (l[i].f0).toList = (l'[i].f0).toList then (if l[i].f1 = l'[i].f1 then (if l[i].f2 = l'[i].f2 then (if l[i].f4 = l'[i].f4 then (if l[i].f5 = l'[i].f5 then (if l[i].f6 = l'[i].f6 then ((postroomref11_sameInts.f k l[i].f3 l'[i].f3).bind fun t => (if t = true then (postroomref11_Same.l0 k ((i + 1 : Nat) : Int) x y l x' y' l') else (some false))) else (some false)) else (some false)) else (some false)) else (some false)) else (some false)) else (some false) := fun k => by
   rw [postroomref11_Same.l0, if_pos (by omega), if_pos (by omega), if_pos (by omega), rdR' l i h1, rdR' l' i h2, w_succ (by omega)]
  have hno : l[i] ≠ l'[i] → (false = true ↔ l[i] :: l.drop (i + 1) = l'[i] :: l'.drop (i + 1)) := fun h => ⟨fun g => (by cases g), fun g => absurd (cons_iff.1 g).1 h⟩
  by_cases c0 : (l[i].f0).toList = (l'[i].f0).toList
  ·by_cases c1 : l[i].f1 = l'[i].f1
   ·by_cases c2 : l[i].f2 = l'[i].f2
    ·by_cases c4 : l[i].f4 = l'[i].f4
     ·by_cases c5 : l[i].f5 = l'[i].f5
      ·by_cases c6 : l[i].f6 = l'[i].f6
       ·obtain ⟨v, hv, hP⟩ := si_f l[i].f3 l'[i].f3 (ha _ (List.getElem_mem h1))
        obtain ⟨u, hu, hQ⟩ := same_gen0 x y x' y' l l' hl hb ha m (i + 1) (by omega)
        have hall : ∀ k, postroomref11_Same.l0 (k + 1) (i : Int) x y l x' y' l' = ((postroomref11_sameInts.f k l[i].f3 l'[i].f3).bind fun t => (if t = true then (postroomref11_Same.l0 k ((i + 1 : Nat) : Int) x y l x' y' l') else (some false))) := fun k =>
         (hs k).trans ((if_pos c0).trans ((if_pos c1).trans ((if_pos c2).trans ((if_pos c4).trans ((if_pos c5).trans (if_pos c6))))))
        cases v with
        | true =>
         have c3 := hP.1 rfl
         have e : l[i] = l'[i] := by
          have c0' := ba_inj c0
          generalize l[i] = p at *
          generalize l'[i] = q at *
          cases p; cases q
          simp only at c0' c1 c2 c3 c4 c5 c6
          rw [c0', c1, c2, c3, c4, c5, c6]
         refine ⟨u, Ev.step hall (Ev.bind hv (Ev.congr (fun k => if_pos rfl) hu)), hQ.trans ⟨fun h => cons_iff.2 ⟨e, h⟩, fun h => (cons_iff.1 h).2⟩⟩
        | false =>
         refine ⟨false, Ev.step hall (Ev.bind hv (Ev.congr (fun k => if_neg (by decide)) (Ev.now _))), hno (fun e => ?_)⟩
         have := hP.2 (by rw [e])
         cases this
       ·exact ⟨false, Ev.step hs (Ev.congr (fun k => (if_pos c0).trans ((if_pos c1).trans ((if_pos c2).trans ((if_pos c4).trans ((if_pos c5).trans (if_neg c6)))))) (Ev.now _)), hno (fun e => c6 (by rw [e]))⟩
      ·exact ⟨false, Ev.step hs (Ev.congr (fun k => (if_pos c0).trans ((if_pos c1).trans ((if_pos c2).trans ((if_pos c4).trans (if_neg c5))))) (Ev.now _)), hno (fun e => c5 (by rw [e]))⟩
     ·exact ⟨false, Ev.step hs (Ev.congr (fun k => (if_pos c0).trans ((if_pos c1).trans ((if_pos c2).trans (if_neg c4)))) (Ev.now _)), hno (fun e => c4 (by rw [e]))⟩
    ·exact ⟨false, Ev.step hs (Ev.congr (fun k => (if_pos c0).trans ((if_pos c1).trans (if_neg c2))) (Ev.now _)), hno (fun e => c2 (by rw [e]))⟩
   ·exact ⟨false, Ev.step hs (Ev.congr (fun k => (if_pos c0).trans (if_neg c1)) (Ev.now _)), hno (fun e => c1 (by rw [e]))⟩
  ·exact ⟨false, Ev.step hs (Ev.congr (fun k => if_neg c0) (Ev.now _)), hno (fun e => c0 (by rw [e]))⟩
theorem same_gen (x y x' y' : Int) (l l' : List R) (hb : l.length ≤ 1000000000000) (ha : ∀ d ∈ l, d.f3.length ≤ 1000000000000) : ∃ v, Ev (fun k => postroomref11_Same.f k x y l x' y' l') v ∧ (v = true ↔ x = x' ∧ y = y' ∧ l = l') := by
 have hj : ∀ k, postroomref11_Same.j0 (k + 1) true x y l x' y' l' = some false := fun k => by rw [postroomref11_Same.j0, if_pos rfl]
 by_cases c1 : x = x'
 ·by_cases c2 : y = y'
  ·by_cases c3 : l.length = l'.length
   ·obtain ⟨v, hv, hP⟩ := same_gen0 x y x' y' l l' c3 hb ha l.length 0 (by omega)
    refine ⟨v, Ev.congr (fun k => by rw [postroomref11_Same.f, if_pos c1, if_pos c2]) (Ev.step (fun k => by rw [postroomref11_Same.j0, if_neg (by simp [c3])]; rfl) hv), ?_⟩
    rw [List.drop_zero, List.drop_zero] at hP
    simp [hP, c1, c2]
   ·refine ⟨false, Ev.congr (fun k => by rw [postroomref11_Same.f, if_pos c1, if_pos c2]) (Ev.stop fun k => by rw [postroomref11_Same.j0, if_pos (by simp; omega)]), ?_⟩
    constructor
    ·intro h; cases h
    ·intro h; exact absurd (congrArg List.length h.2.2) c3
  ·exact ⟨false, Ev.congr (fun k => by rw [postroomref11_Same.f, if_pos c1, if_neg c2]) (Ev.stop hj), by simp [c2]⟩
 ·exact ⟨false, Ev.congr (fun k => by rw [postroomref11_Same.f, if_neg c1]) (Ev.stop hj), by simp [c1]⟩
theorem same_refl (x y : Int) (l : List R) (hb : l.length ≤ 1000000000000) (ha : ∀ d ∈ l, d.f3.length ≤ 1000000000000) : Ev (fun k => postroomref11_Same.f k x y l x y l) true := by
 obtain ⟨v, hv, hP⟩ := same_gen x y x y l l hb ha
 rwa [hP.2 ⟨rfl, rfl, rfl⟩] at hv
/-- The chapter's example. -/
def ex : List D := [⟨⟨#[97]⟩, 1, 1, [2], 1, 0, 0⟩]
theorem ex_right : rightL 1 4 ex = true := by decide +kernel
theorem ex_wf : WFL 1 4 ex := ⟨by unfold U; omega, by unfold U; omega, fun d hd => by
 unfold ex at hd
 rw [List.mem_singleton] at hd
 subst hd
 refine ⟨⟨by unfold U; simp, by unfold U; simp, fun a ha => ?_, by unfold U; simp, by unfold U; simp, by unfold U; simp⟩, by simp⟩
 simp only [List.mem_singleton] at ha
 subst ha; unfold U; omega⟩
theorem ex_bytes : encL 1 4 ex = [1, 4, 1, 1, 97, 1, 1, 1, 0, 0, 1, 1] := by
 have e2 : IntKind.u64.wrap (2 - 1) = 1 := by decide
 have el : ls (⟨#[97]⟩ : ByteArray) = [97] := rfl
 simp only [encL, ex, encD, delt, encs_cons, encs_nil, List.flatMap_cons, List.flatMap_nil, List.append_nil, encT, el, e2, List.length_cons, List.length_nil]
 rw [show ((0 + 1 : Nat) : Int) = 1 from rfl, show (1 : Int).toNat = 1 from rfl, show (4 : Int).toNat = 4 from rfl, show (0 : Int).toNat = 0 from rfl, enc_small (by decide), enc_small (by decide), enc_small (by decide)]
 rfl
theorem take_nil : Ev (fun k => mark_Take.f k (⟨#[]⟩ : ByteArray)) err0 := by
 obtain ⟨r, h, hT⟩ := mtake_any [] (by simp)
 rcases hT with rfl | ⟨f, n, ds, rfl, _, _, e⟩
 ·exact h
 ·exfalso
  have e1 := bs_inj e
  unfold encL at e1
  rw [encs_cons] at e1
  have := enc_pos f.toNat
  have h1 := congrArg List.length e1
  simp only [List.length_nil, List.length_append] at h1
  omega
theorem shown_f : Ev (fun k => postroomlaw11_shown.f k) true := by
 have hp := mput_f ex_wf (by decide)
 rw [if_pos ex_right, ex_bytes] at hp
 refine Ev.bind hp (Ev.bind take_nil (Ev.congr (fun k => (if_pos rfl).trans (if_pos ?_)) (Ev.now _)))
 rw [bs_toList]
/-! ### bytes that something stands behind -/
/-- How many bytes there are. -/
def mostD (d : D) : Nat := 61 + d.f0.size + 10 * d.f3.length
def leastD (d : D) : Nat := 7 + d.f0.size + d.f3.length
theorem encs_ge : ∀ (l : List Int), l.length ≤ (encs l).length
 | [] => Nat.zero_le _
 | x :: l => by
  rw [encs_cons, List.length_append, List.length_cons]
  have := encs_ge l
  have := enc_pos x.toNat
  omega
theorem encD_range {d : D} (h : Fits d) : leastD d ≤ (encD d).length ∧ (encD d).length ≤ mostD d := by
 have hn := h.nm
 have e1 : (encT (ls d.f0)).length = 1 + d.f0.size := by
  unfold encT
  rw [List.length_append, enc_small (by rw [ls_len]; omega), ls_len, List.length_singleton]
 have h2 := encs_len h.head
 have h3 := encs_len (l := delt d.f2 d.f3) (delt_u _ _)
 have g2 := encs_ge [d.f1, d.f2, d.f4, d.f5, d.f6, (d.f3.length : Int)]
 have g3 := encs_ge (delt d.f2 d.f3)
 rw [delt_len] at h3 g3
 simp only [List.length_cons, List.length_nil] at h2 g2
 unfold leastD mostD encD
 rw [List.length_append, List.length_append, e1]
 omega
def sumN (g : D → Nat) (l : List D) : Nat := l.foldr (fun d s => g d + s) 0
theorem flat_range : ∀ {l : List D}, (∀ d ∈ l, Fits d) → sumN leastD l ≤ (l.flatMap encD).length ∧ (l.flatMap encD).length ≤ sumN mostD l
 | [], _ => ⟨Nat.le_refl _, Nat.le_refl _⟩
 | a :: l, h => by
  have h1 := encD_range (h a List.mem_cons_self)
  have h2 := flat_range (l := l) (fun d hd => h d (List.mem_cons_of_mem _ hd))
  rw [List.flatMap_cons, List.length_append]
  show leastD a + sumN leastD l ≤ _ ∧ _ ≤ mostD a + sumN mostD l
  omega
theorem encL_range {f n : Int} {l : List D} (h : WFL f n l) (hr : rightL f n l = true) : 3 + sumN leastD l ≤ (encL f n l).length ∧ (encL f n l).length ≤ 21 + sumN mostD l := by
 have l4 := (rightL_name hr).1
 have h1 := flat_range (h.fits hr)
 have b1 := h.first; have b2 := h.next
 unfold U at b1 b2
 have p1 := enc_pos f.toNat
 have p2 := enc_pos n.toNat
 have q1 := enc_len10 (n := f.toNat) (by omega)
 have q2 := enc_len10 (n := n.toNat) (by omega)
 have e3 : enc ((l.length : Int)).toNat = [u8 l.length] := by rw [Int.toNat_natCast, enc_small (by omega)]
 unfold encL
 rw [List.length_append, encs_cons, encs_cons, encs_cons, encs_nil, List.append_nil, List.length_append, List.length_append, e3, List.length_singleton]
 omega
theorem sum_le {g : D → Nat} {c : Nat} : ∀ {l : List D}, (∀ d ∈ l, g d ≤ c) → sumN g l ≤ c * l.length
 | [], _ => Nat.zero_le _
 | a :: l, h => by
  have h1 := h a List.mem_cons_self
  have h2 := sum_le (l := l) (fun d hd => h d (List.mem_cons_of_mem _ hd))
  show g a + sumN g l ≤ _
  rw [List.length_cons, Nat.mul_succ]
  omega
/-- A ledger that came of acts has few bytes. -/
theorem inv_few {f n : Int} {r : List Ldg.RD} (h : Ldg.Inv f n r) : (∀ d ∈ r.map Ldg.progD, d.f3.length ≤ 1000 ∧ d.f0.size ≤ 20) ∧ (encL f n (r.map Ldg.progD)).length ≤ 50000 := by
 have hR := inv_right h
 have hW := inv_wfl h
 have hd : ∀ d ∈ r.map Ldg.progD, d.f3.length ≤ 1000 ∧ d.f0.size ≤ 20 := fun d hd => by
  refine ⟨?_, ((rightL_name hR).2 d hd).2⟩
  obtain ⟨x, hx, rfl⟩ := List.mem_map.1 hd
  have g2 := h.next x hx
  have g3 := h.n1
  have g5 := h.since x hx
  have g4 := Ldg.abvL_len (x.f1 + (Ldg.lowN x.f2 : Int)) x.f2 x.f1
  show (Ldg.abvL (x.f1 + (Ldg.lowN x.f2 : Int)) x.f1 x.f2).length ≤ _
  omega
 refine ⟨hd, ?_⟩
 have h1 := (encL_range hW hR).2
 have h2 := sum_le (g := mostD) (c := 10100) (l := r.map Ldg.progD) (fun d g => by
  have := hd d g
  unfold mostD; omega)
 have h3 := h.few
 rw [List.length_map] at h2
 omega
end Go.Proofs.YtmbigoeldobaiaaDoor.Mrk
