/- SampleWide: times may be as far apart as numbers go. Conditions: the law's own. -/
import Derived.Test.YtncaikmdcbaeeaaSmpGlue
import Derived.Test.YtncaikmdcbaeeaaXSmpx0
import Derived.Test.YtncaikmdcbaeeaaXSmpx8
namespace Go.Proofs.Ytncaikmdcbaeeaa
open Go.RowKit Go.Proofs.YtncaikmdcbaeeaaW.PrintWords Go.Proofs.YtncaikmdcbaeeaaW.PrintMore Go.Proofs.Ytncaikmdcbaeeaa.XSmp Go.Proofs.Ytncaikmdcbaeeaa.Num Go.Proofs.Ytncaikmdcbaeeaa.Smp
set_option linter.unusedVariables false
set_option linter.unusedSimpArgs false
theorem rises_snoc : ∀ (r : List S) (x y : S), rises x r = true → ((x :: r).getLast (by simp)).f0 < y.f0 → rises x (r ++ [y]) = true
  | [], x, y, _, h => by simp only [List.nil_append, rises, Bool.and_true]; exact decide_eq_true h
  | z :: r, x, y, hr, h => by
    simp only [rises, Bool.and_eq_true] at hr
    simp only [List.cons_append, rises]
    rw [hr.1, Bool.true_and]
    exact rises_snoc r z y hr.2 (by rw [List.getLast_cons (by simp)] at h; exact h)
/-- Rising. -/
def asc : List S → Bool
  | [] => true
  | x :: r => rises x r
theorem asc_snoc {l : List S} {y : S} (h : asc l = true) (hy : 0 < l.length → (rd_T33 l ((l.length : Int) - 1)).f0 < y.f0) : asc (l ++ [y]) = true := by
  match l, h, hy with
  | [], _, _ => rfl
  | x :: r, h, hy =>
    have h1 := hy (by simp)
    refine rises_snoc r x y h ?_
    rw [List.getLast_eq_getElem]
    have e : (((x :: r).length : Int) - 1) = (((x :: r).length - 1 : Nat) : Int) := by simp
    rw [e, rd_S _ _ (by simp)] at h1
    exact h1
/-- What is held of the time that is looked for. -/
def Iv (T : List Int) (l : List S) (f : Bool) (a : Int) : Prop := f = true → a ∈ T ∧ (0 < l.length → (rd_T33 l ((l.length : Int) - 1)).f0 < a)
def wideE (k : Nat) (T V : List Int) (l : List S) (f : Bool) (a : Int) : Option Bool :=
  if f = true then (if (l.length : Int) < (V.length : Int) then (if 0 ≤ (l.length : Int) then (if l.length < 8796093022208 then (postroomlaw4_SampleWide.l0 k T V (l ++ [(⟨a, rd V (l.length : Int)⟩ : S)])) else (none)) else (none)) else (if l.length < 8796093022208 then (postroomlaw4_SampleWide.l0 k T V (l ++ [(⟨a, 0⟩ : S)])) else (none))) else (postroomlaw4_SampleWide.j3 k l)
theorem wide_l1 (T V : List Int) (l : List S) (hT : T.length ≤ 1000) (hl : l.length ≤ 1000) : ∀ (d k i : Nat) (f : Bool) (a : Int), i + d = T.length → Iv T l f a → ∃ f' a', Iv T l f' a' ∧ postroomlaw4_SampleWide.l1 (k + d + 1) T V l f (i : Int) a 0 = wideE k T V l f' a'
  | 0, k, i, f, a, hi, hv => by
    refine ⟨f, a, hv, ?_⟩
    conv => lhs; rw [show k + 0 + 1 = k + 1 from rfl, postroomlaw4_SampleWide.l1]
    rw [if_neg (by omega)]
    rfl
  | d + 1, k, i, f, a, hi, hv => by
    have h1 : i < T.length := by omega
    have hm : T[i] ∈ T := List.getElem_mem h1
    have go := fun f a h => wide_l1 T V l hT hl d k (i + 1) f a (by omega) h
    have e1 : wrap64 ((i : Int) + 1) = ((i + 1 : Nat) : Int) := by rw [w64_id (by omega) (by omega)]; omega
    rw [show k + (d + 1) + 1 = (k + d + 1) + 1 by omega]
    conv => arg 1; ext f'; arg 1; ext a'; rw [postroomlaw4_SampleWide.l1, if_pos (show (i : Int) < (T.length : Int) by omega), rd_int T i h1, e1]
    by_cases h0 : l.length = 0
    · have hnew : ∀ b, b ∈ T → Iv T l true b := fun b hb _ => ⟨hb, fun h => by omega⟩
      simp only [if_pos (show (l.length : Int) = 0 by omega), if_pos (show (0 : Int) ≤ (i : Int) by omega)]
      by_cases hf : f = true
      · simp only [if_pos hf]
        by_cases hlt : T[i] < a
        · simp only [if_pos hlt]; exact go true _ (hnew _ hm)
        · simp only [if_neg hlt]; exact go f a hv
      · simp only [if_neg hf]; exact go true _ (hnew _ hm)
    · have e2 : wrap64 ((l.length : Int) - 1) = (l.length : Int) - 1 := w64_id (by omega) (by omega)
      simp only [if_neg (show ¬ (l.length : Int) = 0 by omega), if_pos (show (0 : Int) ≤ (i : Int) by omega), e2, if_pos (show (0 : Int) ≤ (l.length : Int) - 1 by omega), if_pos (show (l.length : Int) - 1 < (l.length : Int) by omega)]
      by_cases hgt : T[i] > (rd_T33 l ((l.length : Int) - 1)).f0
      · have hnew : Iv T l true T[i] := fun _ => ⟨hm, fun _ => hgt⟩
        simp only [if_pos hgt]
        by_cases hf : f = true
        · simp only [if_pos hf]
          by_cases hlt : T[i] < a
          · simp only [if_pos hlt]; exact go true _ hnew
          · simp only [if_neg hlt]; exact go f a hv
        · simp only [if_neg hf]; exact go true _ hnew
      · simp only [if_neg hgt]; exact go f a hv
theorem asc_chk {l : List S} (h : asc l = true) (h0 : 0 < l.length) (hl : l.length ≤ 20) : chk l = 0 := by
  match l, h, h0, hl with
  | x :: r, h, _, hl =>
    simp only [chk]
    rw [if_neg (by omega), show rises x r = true from h]
    rfl
theorem wide_j3 (l : List S) (k : Nat) (hk : 1100 ≤ k) (ha : asc l = true) (hw : ∀ x ∈ l, WF x) (hl : l.length ≤ 20) : postroomlaw4_SampleWide.j3 k l = some true := by
  obtain ⟨k, rfl⟩ : ∃ m, k = m + 1 := ⟨k - 1, by omega⟩
  rw [postroomlaw4_SampleWide.j3]
  by_cases h0 : l.length = 0
  · obtain rfl : l = [] := List.length_eq_zero_iff.1 h0
    rw [if_pos (by simp), check_f [] k (by omega), bsome]
    rfl
  · have hc := asc_chk ha (by omega) hl
    have hlen := bytes_len hc hw
    have ht := takeS_bytes hc hw []
    rw [List.append_nil] at ht
    rw [if_neg (by omega), put_ok hw hc, bsome, stake_f (by omega), bsome, check_f l k (by omega), bsome, hc, if_pos rfl, if_pos rfl, ht, if_pos rfl, same_f (l := l) (by omega) (by omega), bsome, decide_eq_true rfl, if_pos rfl]
    show some ((bs []).toList == ([] : List UInt8)) = some true
    rw [bs_toList]
    rfl
theorem wide_l0 (T V : List Int) (hT : T.length ≤ 20) (hwT : ∀ x ∈ T, (Lit.int .u64 x).wf = true) (hwV : ∀ x ∈ V, (Lit.int .i64 x).wf = true) (hV : V.length ≤ 140737488351232) : ∀ (m k : Nat) (l : List S), l.length + m = T.length → 30 * m + 1200 ≤ k → asc l = true → (∀ x ∈ l, WF x) →
    postroomlaw4_SampleWide.l0 k T V l = some true
  | m, k, l, hm, hk, ha, hw => by
    obtain ⟨k, rfl⟩ : ∃ m, k = m + 1 := ⟨k - 1, by omega⟩
    rw [postroomlaw4_SampleWide.l0]
    match m, hm, hk with
    | 0, hm, hk => rw [if_neg (by omega)]; exact wide_j3 l k (by omega) ha hw (by omega)
    | m + 1, hm, hk =>
      rw [if_pos (by omega)]
      obtain ⟨k', hk'⟩ : ∃ k', k = k' + T.length + 1 := ⟨k - T.length - 1, by omega⟩
      obtain ⟨f, a, hv, he⟩ := wide_l1 T V l (by omega) (by omega) T.length k' 0 false 0 (by omega) (fun h => by cases h)
      rw [hk', show (0 : Int) = ((0 : Nat) : Int) from rfl]
      rw [show ((0 : Nat) : Int) = 0 from rfl] at he ⊢
      rw [he]
      unfold wideE
      by_cases hf : f = true
      · obtain ⟨h1, h2⟩ := hv hf
        have hu := hwT a h1
        rw [if_pos hf]
        have key : ∀ v, (Lit.int .i64 v).wf = true → postroomlaw4_SampleWide.l0 k' T V (l ++ [(⟨a, v⟩ : S)]) = some true := by
          intro v hv
          refine wide_l0 T V hT hwT hwV hV m k' _ (by simp; omega) (by omega) (asc_snoc ha h2) ?_
          intro x hx
          rcases List.mem_append.1 hx with hx | hx
          · exact hw x hx
          · obtain rfl := List.mem_singleton.1 hx
            exact ⟨hu, hv⟩
        by_cases hlv : l.length < V.length
        · rw [if_pos (by omega), if_pos (by omega), if_pos (by omega), rd_int V l.length hlv]
          exact key _ (hwV _ (List.getElem_mem hlv))
        · rw [if_neg (by omega), if_pos (by omega)]
          exact key 0 (by decide)
      · rw [if_neg hf]
        exact wide_j3 l k' (by omega) ha hw (by omega)
theorem Pure.SampleWide : postroomlaw4_SampleWide.Pure := by
  intro T V hT1 hT2 hwT hV1 hV2 hwV
  refine ⟨2000, ?_⟩
  unfold postroomlaw4_SampleWide.f
  rw [shown_f, bsome, if_pos rfl]
  rw [show (2000 : Nat) = 1999 + 1 from rfl, postroomlaw4_SampleWide.j0]
  by_cases h : (T.length : Int) > 20
  · rw [if_pos (decide_eq_true h)]
  · rw [if_neg (by rw [decide_eq_true_eq]; exact h)]
    exact wide_l0 T V (by omega) hwT hwV (by omega) T.length 1999 [] (by simp) (by omega) rfl (fun x hx => by cases hx)
end Go.Proofs.Ytncaikmdcbaeeaa
