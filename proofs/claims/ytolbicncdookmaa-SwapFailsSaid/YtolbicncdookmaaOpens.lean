/- Whatever can be read as data of a type is, in memory, one of the kind that the walks speak of: whole numbers, bools, strings, structs, slices. Conditions: the type's shape, as each theorem names it. -/
import Derived.Deep.Slices
import Derived.ChangeArms
import Derived.DataReads
import Derived.WideShapes
import Derived.SizedLaws
import Derived.Test.YtolbicncdookmaaWWords
namespace Go.Proofs.Ytolbicncdookmaa.Opens
open Go.ChangeShapes Go.WideShapes Go.Deep Go.Proofs.YtolbicncdookmaaW.PrintWords

def Opens {α : Type} (P : Program) (t : TypeId) (d : Kd α) (WF : α → Prop) : Prop :=
  ∀ {H : Type} (enc : TypeId × Value → H) (w : World) (base : Nat) (spare : Nat → Bool) (held : Bool) (fuel : Nat) (cs : List Value) (x : DataW H × List MemPlace),
    DataW.trod enc P w base spare held fuel t cs = some x → ∃ y, d.K w y cs ∧ WF y

section
variable {P : Program} {t e : TypeId}
theorem opens_int {k : IntKind} (ht : P.underlying t = some (.int k)) : Opens P t (Kd.int k) (fun n => (Lit.int k n).wf = true) := by
  intro H enc w base spare held fuel cs x h
  obtain ⟨n, rfl, rfl, hw⟩ := DataW.trod_int ht h
  exact ⟨n, rfl, hw⟩
theorem opens_bool (ht : P.underlying t = some .bool) : Opens P t Kd.bool (fun _ => True) := by
  intro H enc w base spare held fuel cs x h
  obtain ⟨n, rfl, rfl⟩ := DataW.trod_bool ht h
  exact ⟨n, rfl, trivial⟩
theorem opens_string (ht : P.underlying t = some .string) : Opens P t Kd.string (fun s => s.size ≤ maxLen) := by
  intro H enc w base spare held fuel cs x h
  obtain ⟨s, rfl, rfl, hs⟩ := DataW.trod_string ht h
  exact ⟨s, rfl, hs⟩
theorem choose_list {α : Type} {p : Nat → α → Prop} : ∀ (n : Nat), (∀ i, i < n → ∃ y, p i y) → ∃ l : List α, l.length = n ∧ ∀ i y, l[i]? = some y → p i y
  | 0, _ => ⟨[], rfl, fun i y h => by simp at h⟩
  | n + 1, h => by
    obtain ⟨l, hl, hp⟩ := choose_list n (fun i hi => h i (Nat.lt_succ_of_lt hi))
    obtain ⟨y, hy⟩ := h n (Nat.lt_succ_self n)
    refine ⟨l ++ [y], by rw [List.length_append, hl]; rfl, fun i z hz => ?_⟩
    rcases Nat.lt_or_ge i n with hi | hi
    · rw [List.getElem?_append_left (by omega)] at hz
      exact hp i z hz
    · rw [List.getElem?_append_right (by omega)] at hz
      have h2 := (List.getElem?_eq_some_iff.1 hz).1
      simp only [List.length_cons, List.length_nil] at h2
      have hi2 : i = n := by omega
      subst hi2
      rw [hl, Nat.sub_self] at hz
      injection hz with hz
      exact hz ▸ hy
theorem opens_slice {α : Type} {d : Kd α} {WF : α → Prop} (ht : P.underlying t = some (.slice e)) (hc : P.cellsOf e = d.sz) (he : Opens P e d WF) :
    Opens P t (Kd.slice e d) (fun l => l.length ≤ maxLen ∧ ∀ x ∈ l, WF x) := by
  intro H enc w base spare held fuel cs x h
  rcases open_slice ht h with ⟨rfl, _⟩ | ⟨a, len, cap, m, n, D, Pl, rfl, _, hl, hm, hmm, _, hel⟩
  · exact ⟨[], ⟨none, 0, rfl, Nat.le_refl _, rfl, by simp, fun hp => absurd hp (by simp)⟩, by simp, fun x hx => by simp at hx⟩
  · have hlm : len ≤ m := by rw [hmm]; split <;> omega
    obtain ⟨l, hlen, hp⟩ := choose_list (p := fun i y => (∃ cs', w.cells? base (a.add (i * P.cellsOf e)) (P.cellsOf e) = some cs' ∧ d.K w y cs') ∧ WF y) len (fun i hi => by
      obtain ⟨cs', h1, h2⟩ := hel i (by omega)
      obtain ⟨y, h3, h4⟩ := he enc w base spare held n cs' _ h2
      exact ⟨y, ⟨cs', h1, h3⟩, h4⟩)
    refine ⟨l, ⟨some a, cap, by rw [hlen], by rw [hlen]; exact hl, rfl, ?_, fun _ => ⟨a, rfl, fun j p hj => ?_⟩⟩, by rw [hlen]; exact Nat.le_trans hl hm, fun x hx => ?_⟩
    · have : l.length ≤ maxLen := by rw [hlen]; exact Nat.le_trans hl hm
      unfold maxLen at this
      omega
    · obtain ⟨⟨cs', h1, h2⟩, _⟩ := hp j p hj
      rw [hc] at h1
      obtain ⟨_, h4, h5⟩ := World.cells?_some h1
      refine ⟨cs', d.K_len h2, h2, fun i u hu => ?_⟩
      have hi : i < d.sz := by have := (List.getElem?_eq_some_iff.1 hu).1; have := d.K_len h2; omega
      rw [← Deep.add_add, h5 i hi]
      exact hu
    · obtain ⟨j, hj⟩ := List.getElem?_of_mem hx
      exact (hp j x hj).2
/-- Fields in line, from a place on. -/
def OpensL {α : Type} (P : Program) (o : Nat) (fs : List Field) (d : Kd α) (WF : α → Prop) : Prop :=
  ∀ {H : Type} (enc : TypeId × Value → H) (w : World) (base : Nat) (spare : Nat → Bool) (held : Bool) (fuel : Nat) (cs : List Value),
    (∀ f ∈ fs, ∃ x : DataW H × List MemPlace, DataW.trod enc P w base spare held fuel f.type ((cs.drop f.offset).take (P.cellsOf f.type)) = some x) → cs.length = o + d.sz → ∃ y, d.K w y (cs.drop o) ∧ WF y
theorem opens_last {α : Type} {d : Kd α} {WF : α → Prop} {o : Nat} {f : Field} (ho : f.offset = o) (hc : P.cellsOf f.type = d.sz) (h : Opens P f.type d WF) : OpensL P o [f] d WF := by
  intro H enc w base spare held fuel cs hf hl
  obtain ⟨x, hx⟩ := hf f (by simp)
  rw [ho, hc, List.take_of_length_le (by rw [List.length_drop]; omega)] at hx
  exact h enc w base spare held fuel _ x hx
theorem opens_field {α β : Type} {a : Kd α} {b : Kd β} {WA : α → Prop} {WB : β → Prop} {o : Nat} {f : Field} {fs : List Field} (ho : f.offset = o) (hc : P.cellsOf f.type = a.sz) (h : Opens P f.type a WA) (hr : OpensL P (o + a.sz) fs b WB) :
    OpensL P o (f :: fs) (Kd.pair a b) (fun p => WA p.1 ∧ WB p.2) := by
  intro H enc w base spare held fuel cs hf hl
  have hl' : cs.length = o + (a.sz + b.sz) := hl
  obtain ⟨x, hx⟩ := hf f (by simp)
  rw [ho, hc] at hx
  obtain ⟨y, h1, h2⟩ := h enc w base spare held fuel _ x hx
  obtain ⟨z, h3, h4⟩ := hr enc w base spare held fuel cs (fun g hg => hf g (List.mem_cons_of_mem _ hg)) (by omega)
  refine ⟨(y, z), ⟨_, _, ?_, h1, h3⟩, h2, h4⟩
  rw [← List.drop_drop, List.take_append_drop]
theorem opens_struct {α β : Type} {d : Kd α} {WF : α → Prop} {fs : Array Field} (f : β → α) (g : α → β) (hg : ∀ x, f (g x) = x) (ht : P.underlying t = some (.struct fs)) (hc : P.cellsOf t = d.sz) (h : OpensL P 0 fs.toList d WF) :
    Opens P t (Kd.iso d f) (fun y => WF (f y)) := by
  intro H enc w base spare held fuel cs x hx
  obtain ⟨xs, n, _, _, hl, hsz, hf⟩ := DataW.trod_struct ht hx
  obtain ⟨y, h1, h2⟩ := h enc w base spare held n cs (fun q hq => by
    obtain ⟨i, hi⟩ := List.getElem?_of_mem hq
    have hi2 : fs[i]? = some q := by rw [← hi, Array.getElem?_toList]
    have hlt : i < xs.length := by have := (Array.getElem?_eq_some_iff.1 hi2).1; omega
    exact ⟨xs[i], by rw [hf i q hi2, List.getElem?_eq_getElem hlt]⟩) (by omega)
  refine ⟨g y, ?_, ?_⟩
  · show d.K w (f (g y)) cs
    rw [hg]
    exact h1
  · show WF (f (g y))
    rw [hg]
    exact h2
theorem Opens.mono {α : Type} {d : Kd α} {WF WF' : α → Prop} (h : Opens P t d WF) (hw : ∀ y, WF y → WF' y) : Opens P t d WF' := fun enc w base spare held fuel cs x hx => by
  obtain ⟨y, h1, h2⟩ := h enc w base spare held fuel cs x hx
  exact ⟨y, h1, hw y h2⟩

/-! ### Arguments -/
variable {H : Type} {enc : TypeId × Value → H} {w : World} {base b0 : Nat} {spare : Nat → Bool} {held : Bool} {r : Reach} {v : Value} {d : DataW H} {p : List MemPlace}
theorem arg_slice {α : Type} {k : Kd α} {WF : List α → Prop} (ht : P.underlying t = some (.slice e)) (ho : Opens P t (Kd.slice e k) WF) (hv : Value.okWide P w r b0 t v) (h : DataW.Trod enc P w base spare held t v d p) :
    ∃ (A : Option Addr) (c : Nat) (l : List α), v = .slice A l.length c ∧ l.length ≤ c ∧ k.C w A l.length l ∧ WF l := by
  obtain ⟨a, len, cap, rfl⟩ := okWide_slice ht hv
  obtain ⟨fuel, hf⟩ := h
  obtain ⟨l, ⟨A, c, hcs, hl, hC⟩, hw⟩ := ho enc w base spare held fuel _ _ hf
  refine ⟨A, c, l, ?_, hl, hC, hw⟩
  simpa [Value.cells] using hcs
theorem arg_struct {α : Type} {k : Kd α} {WF : α → Prop} {fs : Array Field} (ht : P.underlying t = some (.struct fs)) (ho : Opens P t k WF) (hv : Value.okWide P w r b0 t v) (h : DataW.Trod enc P w base spare held t v d p) :
    ∃ (cs : List Value) (y : α), v = .agg cs.toArray ∧ k.K w y cs ∧ WF y := by
  obtain ⟨cs, rfl, _⟩ := okWide_struct ht hv
  obtain ⟨fuel, hf⟩ := h
  obtain ⟨y, h1, h2⟩ := ho enc w base spare held fuel _ _ hf
  exact ⟨cs.toList, y, by simp, by simpa [Value.cells] using h1, h2⟩
theorem sized_any {ts : List TypeId} {ds : List (DataW H)} {j : Nat} {a : Option Addr} {len cap B : Nat} (hsz : (DataW.weightsEach P ts ds).all (· ≤ reachBytes) = true) (ht : ts[j]? = some t) (hd : ds[j]? = some d) (hu : P.underlying t = some (.slice e)) (hB : P.bytesOf e = B)
    (h : DataW.Trod enc P w base spare held t (.slice a len cap) d p) : len * B ≤ 140737488351232 := by
  obtain ⟨fuel, hf⟩ := h
  rcases DataW.trod_slice hu hf with ⟨hcs, _⟩ | ⟨x, l, c, elems, rest, n, _, hcs, hx, _, _, _, hlen, _⟩
  · simp [Value.cells] at hcs
    obtain ⟨rfl, rfl, rfl⟩ := hcs
    simp
  · simp [Value.cells] at hcs
    obtain ⟨rfl, rfl, rfl⟩ := hcs
    obtain ⟨hx, _⟩ := Prod.mk.inj hx
    subst hx
    have z := sized_slice hsz ht hd hu
    rw [hB, List.length_map, List.length_map, hlen] at z
    exact Nat.le_trans (Nat.mul_le_mul_right _ (Nat.le_add_right _ _)) z
end
end Go.Proofs.Ytolbicncdookmaa.Opens
