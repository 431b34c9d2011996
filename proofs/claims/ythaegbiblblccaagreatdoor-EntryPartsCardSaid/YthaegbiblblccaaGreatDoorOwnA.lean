/- Texts of this seat, in one. Conditions: those that each theorem names. -/
import Derived.RangeFuncNested
import Derived.RangeFuncCalls
import Derived.RangeFuncLeaves
import Derived.Deep.Slices
import Derived.ChangeArms
import Derived.DataReads
import Derived.WideShapes
import Derived.SizedLaws
import Derived.Test.YthaegbiblblccaaGreatDoorWCore
import Derived.Test.YthaegbiblblccaaGreatDoorProg
import Derived.Sort.Walk0
import Derived.Laws.Strings
section
/- A range over a function whose iterator keeps a state of its own in cells: the statement, by one walk of the assignment, one of the body, and the iterator's own contract at the caller's words. Conditions: those that each theorem names. -/
namespace Go.Proofs.YthaegbiblblccaaGreatDoor
open Go Go.RowKit
variable {F : Fence} {n : Nat} {P : Program}

theorem wpIn_range_st {α σ : Type} {g : Operand} {ps : Array Tmp} {assign body : Code} {Q : Exit → Act → World → Prop} {a : Act} {w : World}
    (hro : F.round = none) (h1 : 1 ≤ n) {gf : Nat} {lb : Array Value} (hg : a.eval g = .func (.func gf) #[] lb) (hFg : F.fn gf) (eg : ∀ args w, (callFunc gf args).run P w = .ok (.enter gf args) w)
    {encs : α → Array Value} (hps : ∀ x, (encs x).size = ps.size)
    (I0 Ie : World → Prop) (J J2 : σ → α → World → Prop) (Ax : σ → α → Act → World → Prop)
    (h0 : ∀ W, Below w.heap.size w W → I0 W)
    (hAx : ∀ s x a' A l o o', Ax s x a' A → w.heap.size ≤ l → A.heap[l]? = some o → o.isCells = false → Ax s x a' (A.putObj l o'))
    (hJ2 : ∀ s x A l o o', J2 s x A → w.heap.size ≤ l → A.heap[l]? = some o → o.isCells = false → J2 s x (A.putObj l o'))
    (hIe : ∀ A l o o', Ie A → w.heap.size ≤ l → A.heap[l]? = some o → o.isCells = false → Ie (A.putObj l o'))
    (hseq : ∀ (l : Nat) (L : World → Prop), (∀ A B, L A → KeepsFrom w.heap.size A B → L B) →
      (∀ s x W, J s x W → L W → YieldAt F (n - 1 - 1) P l (encs x) W fun e W' => e = .returned (.bool true) ∧ J2 s x W' ∧ L W') →
      ∀ W, I0 W → L W → CallsIn F (n - 1) P gf (#[.func (.yield l) #[] #[]] ++ lb) W fun e W' => (∃ v, e = .returned v) ∧ Ie W' ∧ L W')
    (hassign : ∀ (l : Nat) s x (W : World) (K : Act → World → Prop), J s x W → (∀ a' W', KeepsFrom w.heap.size W W' → Ax s x a' W' → K a' W') →
      assign.wpIn (F.inRound l) (n - 1 - 1) P (Exit.then K (fun _ _ _ => False)) { tmps := (ps.zip (encs x)).foldl (fun t (p, v) => t.setIfInBounds p v) a.tmps, defers := [] } W)
    (hbody : ∀ (l : Nat) s x (a' : Act) (W : World), Ax s x a' W → body.wpIn (F.inRound l) (n - 1 - 1) P (fun e _ W' => e = .normal ∧ KeepsFrom w.heap.size W W' ∧ J2 s x W') a' W)
    (hdone : ∀ (D : Nat) (W : World), w.heap.size ≤ D → Ie W → W.heap[D]? = some (.deferred (some [])) → Q .normal { a with defers := { target := .collected D, args := #[] } :: a.defers } W) :
    (Code.rangeFunc g ps assign body).wpIn F n P Q a w := by
  refine wpIn_rangeFunc ?_
  intro fn hfn
  rw [hro]
  obtain ⟨rec, hrec⟩ : ∃ rec : LoopState → Option Code → Loop, rec = fun st pe => { state := st, pending := pe, fn, tmps := a.tmps, params := ps, assign, body, defers := w.heap.size } := ⟨_, rfl⟩
  obtain ⟨W1, hW1⟩ : ∃ W1, (w.alloc (.deferred (some []))).alloc (.loop (rec .ready none)) = W1 := ⟨_, rfl⟩
  have hL1 : W1.heap[w.heap.size + 1]? = some (.loop (rec .ready none)) := by
    rw [← hW1]; have := World.alloc_heap_new (w.alloc (.deferred (some []))) (.loop (rec .ready none)); rwa [World.size_alloc] at this
  have hK1 : W1.heap[w.heap.size]? = some (.deferred (some [])) := by
    rw [← hW1]; exact (Below.heap_alloc _ _ _ (by simp)).trans (World.alloc_heap_new w _)
  have hb1 : Below w.heap.size w W1 := by
    rw [← hW1]; exact ((Below.refl _ w).alloc (Nat.le_refl _) _).alloc (by simp) _
  refine ⟨w.heap.size + 1, [{ target := .collected w.heap.size, args := #[] }], W1, { target := .fn (.func gf) lb, args := #[.func (.yield (w.heap.size + 1)) #[] #[]] }, W1, gf,
    #[.func (.yield (w.heap.size + 1)) #[] #[]] ++ lb, W1, ?_, ?_, ?_, ?_, fun _ => h1, ?_⟩
  · rw [← hW1, hrec]; exact run_enterLoop_outer _ _ _ _ _
  · simp only [resolve, hg]
    simp [go_sem]
  · intro f' hf'; simp [Target.leads] at hf'; subst hf'; exact hFg
  · simp [invoke, go_sem, eg]
  · refine (hseq (w.heap.size + 1) (fun W => W.heap[w.heap.size + 1]? = some (.loop (rec .ready none)) ∧ W.heap[w.heap.size]? = some (.deferred (some [])))
      (fun A B h hk => ⟨hk.same _ _ (by omega) h.1 rfl, hk.same _ _ (Nat.le_refl _) h.2 rfl⟩) ?_ W1 (h0 W1 hb1) ⟨hL1, hK1⟩).mono ?_
    · -- one round
      rintro s x W hj ⟨hl, hk⟩
      have hy := run_yield (P := P) (args := encs x) hl (by rw [hrec]; exact hps x)
      rw [hrec] at hy
      refine ⟨fn, _, assign, body, hy, roundIn_of_wpIn hfn (hassign _ s x W _ hj ?_)⟩
      clear hy
      intro a' Wa hkfa hax
      have hla := hkfa.same _ _ (by omega) hl rfl
      have hka := hkfa.same _ _ (Nat.le_refl _) hk rfl
      have hlt : w.heap.size + 1 < Wa.heap.size := (Array.getElem?_eq_some_iff.1 hla).1
      refine ⟨_, run_beginRound hla (by rw [hrec]), ?_⟩
      have hl2 : (Wa.putObj (w.heap.size + 1) (.loop { rec .ready none with state := .busy })).heap[w.heap.size + 1]? = some (.loop { rec .ready none with state := .busy }) := World.putObj_heap_same hlt
      have hk2 : (Wa.putObj (w.heap.size + 1) (.loop { rec .ready none with state := .busy })).heap[w.heap.size]? = some (.deferred (some [])) := (World.putObj_heap_other (by omega)).trans hka
      refine wpIn_mono (hbody _ s x a' _ (hAx _ _ _ _ _ _ _ hax (by omega) hla rfl)) ?_
      rintro e a3 W3 ⟨rfl, hk3, hj3⟩
      have hl3 := hk3.same _ _ (by omega) hl2 rfl
      have hr := run_endRound (P := P) none hl3
      rw [hrec] at hr
      refine ⟨_, _, hr, rfl, hJ2 _ _ _ _ _ _ hj3 (by omega) hl3 rfl, ?_, ?_⟩
      · rw [hrec]; exact World.putObj_heap_same (Array.getElem?_eq_some_iff.1 hl3).1
      · exact (World.putObj_heap_other (by omega)).trans (hk3.same _ _ (Nat.le_refl _) hk2 rfl)
    · -- behind the iterator
      rintro e W2 ⟨⟨v, rfl⟩, hi, hl, hk⟩
      exact ⟨none, _, by have := run_endLoop (P := P) hl (by rw [hrec]; simp); rw [hrec] at this; exact this, hdone _ _ (Nat.le_refl _) (hIe _ _ _ _ hi (by omega) hl rfl) ((World.putObj_heap_other (by omega)).trans hk)⟩
end Go.Proofs.YthaegbiblblccaaGreatDoor
end
section
/- Whatever can be read as data of a type is, in memory, one of the kind that the walks speak of: whole numbers, bools, strings, structs, slices. Conditions: the type's shape, as each theorem names it. -/
namespace Go.Proofs.YthaegbiblblccaaGreatDoor.Opens
open Go.ChangeShapes Go.WideShapes Go.Deep Go.Proofs.YthaegbiblblccaaGreatDoorW.PrintWords

def Opens {α : Type} (P : Program) (t : TypeId) (d : Kd α) (WF : α → Prop) : Prop :=
  ∀ {H : Type} (enc : TypeId × Value → H) (w : World) (base : Nat) (spare : Nat → Bool) (held : Bool) (fuel : Nat) (cs : List Value) (x : DataW H × List MemPlace),
    DataW.trod enc P w base spare held fuel t cs = some x → ∃ y, d.K w y cs ∧ WF y

section
variable {P : Program} {t e : TypeId}
theorem opens_int {k : IntKind} (ht : P.underlying t = some (.int k)) : Opens P t (Kd.int k) (fun n => (Lit.int k n).wf = true) := by
  intro H enc w base spare held fuel cs x h
  obtain ⟨n, rfl, rfl, hw⟩ := DataW.trod_int ht h
  exact ⟨n, rfl, hw⟩
theorem choose_list {α : Type} {p : Nat → α → Prop} : ∀ (n : Nat), (∀ i, i < n → ∃ y, p i y) → ∃ l : List α, l.length = n ∧ ∀ i y, l[i]? = some y → p i y
  | 0, _ => ⟨[], rfl, fun i y h => by simp at h⟩
  | n + 1, h => by
    obtain ⟨l, hl, hp⟩ := choose_list n (fun i hi => h i (Nat.lt_succ_of_lt hi))
    obtain ⟨y, hy⟩ := h n (Nat.lt_succ_self n)
    refine ⟨l ++ [y], by rw [List.length_append, hl]; rfl, fun i z hz => ?_⟩
    rcases Nat.lt_or_ge i n with hi | hi
    · rw [List.getElem?_append_left (by omega)] at hz
      exact hp i z hz
    · rw [List.getElem?_append_right (by omega)] at hz
      have h2 := (List.getElem?_eq_some_iff.1 hz).1
      simp only [List.length_cons, List.length_nil] at h2
      have hi2 : i = n := by omega
      subst hi2
      rw [hl, Nat.sub_self] at hz
      injection hz with hz
      exact hz ▸ hy
theorem opens_slice {α : Type} {d : Kd α} {WF : α → Prop} (ht : P.underlying t = some (.slice e)) (hc : P.cellsOf e = d.sz) (he : Opens P e d WF) :
    Opens P t (Kd.slice e d) (fun l => l.length ≤ maxLen ∧ ∀ x ∈ l, WF x) := by
  intro H enc w base spare held fuel cs x h
  rcases open_slice ht h with ⟨rfl, _⟩ | ⟨a, len, cap, m, n, D, Pl, rfl, _, hl, hm, hmm, _, hel⟩
  · exact ⟨[], ⟨none, 0, rfl, Nat.le_refl _, rfl, by simp, fun hp => absurd hp (by simp)⟩, by simp, fun x hx => by simp at hx⟩
  · have hlm : len ≤ m := by rw [hmm]; split <;> omega
    obtain ⟨l, hlen, hp⟩ := choose_list (p := fun i y => (∃ cs', w.cells? base (a.add (i * P.cellsOf e)) (P.cellsOf e) = some cs' ∧ d.K w y cs') ∧ WF y) len (fun i hi => by
      obtain ⟨cs', h1, h2⟩ := hel i (by omega)
      obtain ⟨y, h3, h4⟩ := he enc w base spare held n cs' _ h2
      exact ⟨y, ⟨cs', h1, h3⟩, h4⟩)
    refine ⟨l, ⟨some a, cap, by rw [hlen], by rw [hlen]; exact hl, rfl, ?_, fun _ => ⟨a, rfl, fun j p hj => ?_⟩⟩, by rw [hlen]; exact Nat.le_trans hl hm, fun x hx => ?_⟩
    · have : l.length ≤ maxLen := by rw [hlen]; exact Nat.le_trans hl hm
      unfold maxLen at this
      omega
    · obtain ⟨⟨cs', h1, h2⟩, _⟩ := hp j p hj
      rw [hc] at h1
      obtain ⟨_, h4, h5⟩ := World.cells?_some h1
      refine ⟨cs', d.K_len h2, h2, fun i u hu => ?_⟩
      have hi : i < d.sz := by have := (List.getElem?_eq_some_iff.1 hu).1; have := d.K_len h2; omega
      rw [← Deep.add_add, h5 i hi]
      exact hu
    · obtain ⟨j, hj⟩ := List.getElem?_of_mem hx
      exact (hp j x hj).2
theorem Opens.mono {α : Type} {d : Kd α} {WF WF' : α → Prop} (h : Opens P t d WF) (hw : ∀ y, WF y → WF' y) : Opens P t d WF' := fun enc w base spare held fuel cs x hx => by
  obtain ⟨y, h1, h2⟩ := h enc w base spare held fuel cs x hx
  exact ⟨y, h1, hw y h2⟩

/-! ### Arguments -/
variable {H : Type} {enc : TypeId × Value → H} {w : World} {base b0 : Nat} {spare : Nat → Bool} {held : Bool} {r : Reach} {v : Value} {d : DataW H} {p : List MemPlace}
theorem arg_slice {α : Type} {k : Kd α} {WF : List α → Prop} (ht : P.underlying t = some (.slice e)) (ho : Opens P t (Kd.slice e k) WF) (hv : Value.okWide P w r b0 t v) (h : DataW.Trod enc P w base spare held t v d p) :
    ∃ (A : Option Addr) (c : Nat) (l : List α), v = .slice A l.length c ∧ l.length ≤ c ∧ k.C w A l.length l ∧ WF l := by
  obtain ⟨a, len, cap, rfl⟩ := okWide_slice ht hv
  obtain ⟨fuel, hf⟩ := h
  obtain ⟨l, ⟨A, c, hcs, hl, hC⟩, hw⟩ := ho enc w base spare held fuel _ _ hf
  refine ⟨A, c, l, ?_, hl, hC, hw⟩
  simpa [Value.cells] using hcs
theorem sized_any {ts : List TypeId} {ds : List (DataW H)} {j : Nat} {a : Option Addr} {len cap B : Nat} (hsz : (DataW.weightsEach P ts ds).all (· ≤ reachBytes) = true) (ht : ts[j]? = some t) (hd : ds[j]? = some d) (hu : P.underlying t = some (.slice e)) (hB : P.bytesOf e = B)
    (h : DataW.Trod enc P w base spare held t (.slice a len cap) d p) : len * B ≤ 140737488351232 := by
  obtain ⟨fuel, hf⟩ := h
  rcases DataW.trod_slice hu hf with ⟨hcs, _⟩ | ⟨x, l, c, elems, rest, n, _, hcs, hx, _, _, _, hlen, _⟩
  · simp [Value.cells] at hcs
    obtain ⟨rfl, rfl, rfl⟩ := hcs
    simp
  · simp [Value.cells] at hcs
    obtain ⟨rfl, rfl, rfl⟩ := hcs
    obtain ⟨hx, _⟩ := Prod.mk.inj hx
    subst hx
    have z := sized_slice hsz ht hd hu
    rw [hB, List.length_map, List.length_map, hlen] at z
    exact Nat.le_trans (Nat.mul_le_mul_right _ (Nat.le_add_right _ _)) z
end
end Go.Proofs.YthaegbiblblccaaGreatDoor.Opens
end
section
/- Two texts compared: what the printer says of '>', '>=', '<='. Conditions: none. -/
namespace Go.Proofs.YthaegbiblblccaaGreatDoor.StrOps
open Go
theorem less_total (a b : List UInt8) : (!(Op.bytesLess a b || a == b)) = Op.bytesLess b a := by
  rw [bytesLess_eq, bytesLess_eq, Bool.eq_iff_iff]
  simp only [Bool.not_eq_true', Bool.or_eq_false_iff, decide_eq_false_iff_not, beq_eq_false_iff_ne, decide_eq_true_eq]
  constructor
  · rintro ⟨h1, h2⟩
    exact Decidable.byContradiction fun h => h2 (List.le_antisymm (List.not_lt.mp h) (List.not_lt.mp h1))
  · intro h
    exact ⟨fun h2 => List.lt_irrefl _ (List.lt_trans h h2), fun e => List.lt_irrefl _ (e ▸ h)⟩
@[go_sem high] theorem binOp_string_gtr (t : TypeId) (a b : ByteArray) : binOp .gtr t (.string a) (.string b) = pure (.bool (Op.bytesLess b.toList a.toList)) := by rw [← less_total]; simp [binOp, Op.stringOp]
@[go_sem high] theorem binOp_string_geq (t : TypeId) (a b : ByteArray) : binOp .geq t (.string a) (.string b) = pure (.bool !(Op.bytesLess a.toList b.toList)) := by simp [binOp, Op.stringOp]
@[go_sem high] theorem binOp_string_leq (t : TypeId) (a b : ByteArray) : binOp .leq t (.string a) (.string b) = pure (.bool !(Op.bytesLess b.toList a.toList)) := by
  rw [← less_total, Bool.not_not]; simp [binOp, Op.stringOp]
end Go.Proofs.YthaegbiblblccaaGreatDoor.StrOps
end
