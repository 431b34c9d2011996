/- What a disk is behind a change of its names, of the row of changes, of the row of files, of a file, of what stays. Conditions: those that each theorem names. -/
import Derived.Test.YtolbicncdookmaaDskDone
import Derived.Deep.AppendLies
namespace Go.Proofs.Ytolbicncdookmaa.XDsk
open Go Go.RowKit Go.Maps Go.Proofs.YtolbicncdookmaaW.PrintWords Go.Proofs.YtolbicncdookmaaW.PrintLast Go.Proofs.YtolbicncdookmaaW.PrintMore
set_option linter.unusedVariables false
set_option linter.unusedSimpArgs false
section
variable {B b : Nat} {w w' w1 : World} {L : Lay} {S : PD}
/-- The names' map has turned, and nothing else. -/
theorem DskL.setNames {m : Names} (h : DskL B w L b S) (hm : MapAt w' L.nb m) (hg : w.grownBy w' (some L.nb)) : DskL B w' L b { S with names := m } := by
  obtain ⟨es, c, hn⟩ := h.names.obj
  have far : ∀ k, k < w.heap.size → k ≠ L.nb → w'.heap[k]? = w.heap[k]? := fun k hk hne => hg.block k hk (fun e => hne (by injection e))
  have cell : ∀ {k : Nat} {cur : Array Value} {t : TypeId}, w.heap[k]? = some (.cells cur t (0, 0)) → w'.heap[k]? = w.heap[k]? := fun hk => far _ (blk_lt hk) (fun e => map_ne hn hk e.symm)
  have row : ∀ {e : TypeId} {size n : Nat} {v : Value} {xs : List Value}, w.ownsRow B e size v n xs → w'.ownsRow B e size v n xs := fun hr => row_same hr (fun k hk => by obtain ⟨cur, hb⟩ := row_obj hr hk; exact cell hb)
  refine ⟨h.ge, (cell h.box).trans h.box, h.geN, hm, ?_, row h.files, h.len, fun i p f hp hf => ?_, h.apart, row h.moves⟩
  · obtain ⟨es2, c2, hb2⟩ := h.base.obj
    exact h.base.same (far _ (blk_lt hb2) (fun e => h.geN.2.2 e.symm))
  · have hF := h.each i p f hp hf
    exact ⟨hF.ge, (cell hF.blk).trans hF.blk, row hF.row⟩
/-- The row of changes has grown, and the box holds it. -/
theorem DskL.setMoves {vm' : Value} {ms : List PM} (h : DskL B w L b S) (hr : w1.ownsRow B 69 3 vm' ms.length (mvV ms)) (hg : w.grownBy w1 L.vm.ownBlock) : DskL B (w1.setCell ⟨b, 4, none⟩ vm') { L with vm := vm' } b { S with moves := ms } := by
  have hmv : ∀ k, L.vm.ownBlock = some k → ∃ cur, w.heap[k]? = some (.cells cur 69 (0, 0)) := fun k hk => row_obj h.moves hk
  have far : ∀ k, k < w.heap.size → (∀ cur, w.heap[k]? ≠ some (.cells cur 69 (0, 0))) → w1.heap[k]? = w.heap[k]? := fun k hk hne => hg.block k hk (fun e => by obtain ⟨cur, hb⟩ := hmv k e.symm; exact hne cur hb)
  have cell : ∀ {k : Nat} {cur : Array Value} {t : TypeId}, w.heap[k]? = some (.cells cur t (0, 0)) → t ≠ 69 → w1.heap[k]? = w.heap[k]? := fun hk ht => far _ (blk_lt hk) (fun cur e => by rw [hk] at e; injection e with e; injection e with _ e2; exact ht e2)
  have row : ∀ {e : TypeId} {size n : Nat} {v : Value} {xs : List Value}, w.ownsRow B e size v n xs → e ≠ 69 → w1.ownsRow B e size v n xs := fun hr he => row_same hr (fun k hk => by obtain ⟨cur, hb⟩ := row_obj hr hk; exact cell hb he)
  have mp : ∀ {g : Nat} {m : Names}, MapAt w g m → MapAt w1 g m := fun hm => by
    obtain ⟨es, c, hb⟩ := hm.obj
    exact hm.same (far _ (blk_lt hb) (fun cur e => by rw [hb] at e; injection e with e; cases e))
  have hbox : w1.heap[b]? = some (.cells (boxV L S) 59 (0, 0)) := (cell h.box (by decide)).trans h.box
  have hB : BodyL B w1 { L with vm := vm' } { S with moves := ms } := by
    refine ⟨h.geN, mp h.names, mp h.base, row h.files (by decide), h.len, fun i p f hp hf => ?_, h.apart, hr⟩
    have hF := h.each i p f hp hf
    exact ⟨hF.ge, (cell hF.blk (by decide)).trans hF.blk, row hF.row (by decide)⟩
  exact (hB.far hbox 4 vm').shut h.ge (blk_put hbox 4 vm' rfl) ⟨rfl, rfl, rfl, rfl⟩
/-- The row of files has grown by a file that lies in a block of its own, and the box holds it. -/
theorem DskL.addFile {vf' : Value} {fb : Nat} {s : ByteArray} (h : DskL B w L b S) (hfb : w.heap[fb]? = some (.cells #[.string s, .string s, .slice none 0 0] 66 (0, 0))) (hB : B ≤ fb) (hn : ∀ p ∈ L.fs, fb ≠ p.1)
    (hr : w1.ownsRow B 60 1 vf' (L.fs.length + 1) (ptrs (L.fs ++ [(fb, .slice none 0 0)]))) (hg : w.grownBy w1 L.vf.ownBlock) :
    DskL B (w1.setCell ⟨b, 1, none⟩ vf') { L with vf := vf', fs := L.fs ++ [(fb, .slice none 0 0)] } b { S with files := S.files ++ [⟨s, s, []⟩] } := by
  have hmv : ∀ k, L.vf.ownBlock = some k → ∃ cur, w.heap[k]? = some (.cells cur 60 (0, 0)) := fun k hk => row_obj h.files hk
  have far : ∀ k, k < w.heap.size → (∀ cur, w.heap[k]? ≠ some (.cells cur 60 (0, 0))) → w1.heap[k]? = w.heap[k]? := fun k hk hne => hg.block k hk (fun e => by obtain ⟨cur, hb⟩ := hmv k e.symm; exact hne cur hb)
  have cell : ∀ {k : Nat} {cur : Array Value} {t : TypeId}, w.heap[k]? = some (.cells cur t (0, 0)) → t ≠ 60 → w1.heap[k]? = w.heap[k]? := fun hk ht => far _ (blk_lt hk) (fun cur e => by rw [hk] at e; injection e with e; injection e with _ e2; exact ht e2)
  have row : ∀ {e : TypeId} {size n : Nat} {v : Value} {xs : List Value}, w.ownsRow B e size v n xs → e ≠ 60 → w1.ownsRow B e size v n xs := fun hr he => row_same hr (fun k hk => by obtain ⟨cur, hb⟩ := row_obj hr hk; exact cell hb he)
  have mp : ∀ {g : Nat} {m : Names}, MapAt w g m → MapAt w1 g m := fun hm => by
    obtain ⟨es, c, hb⟩ := hm.obj
    exact hm.same (far _ (blk_lt hb) (fun cur e => by rw [hb] at e; injection e with e; cases e))
  have hbox : w1.heap[b]? = some (.cells (boxV L S) 59 (0, 0)) := (cell h.box (by decide)).trans h.box
  have hB : BodyL B w1 { L with vf := vf', fs := L.fs ++ [(fb, .slice none 0 0)] } { S with files := S.files ++ [⟨s, s, []⟩] } := by
    refine ⟨h.geN, mp h.names, mp h.base, ?_, ?_, fun i p f hp hf => ?_, fun i j p q hp hq hij => ?_, row h.moves (by decide)⟩
    · simpa using hr
    · simp [h.len]
    · rcases Nat.lt_or_ge i L.fs.length with hi | hi
      · rw [List.getElem?_append_left hi] at hp
        rw [List.getElem?_append_left (by rw [← h.len]; exact hi)] at hf
        have hF := h.each i p f hp hf
        exact ⟨hF.ge, (cell hF.blk (by decide)).trans hF.blk, row hF.row (by decide)⟩
      · rw [List.getElem?_append_right hi] at hp
        rw [List.getElem?_append_right (by rw [← h.len]; exact hi), ← h.len] at hf
        obtain ⟨hi0, hp⟩ := List.getElem?_eq_some_iff.1 hp
        simp only [List.length_cons, List.length_nil] at hi0
        obtain ⟨_, hf⟩ := List.getElem?_eq_some_iff.1 hf
        have h0 : i - L.fs.length = 0 := by omega
        simp only [h0, List.getElem_cons_zero] at hp hf
        subst hp hf
        exact ⟨hB, (cell hfb (by decide)).trans hfb, World.ownsRow_nil w1 B 71 2⟩
    · have new : ∀ (i : Nat) (p : Nat × Value), (L.fs ++ [(fb, Value.slice none 0 0)])[i]? = some p → L.fs.length ≤ i → i = L.fs.length ∧ p = (fb, .slice none 0 0) := fun i p hp hi => by
        rw [List.getElem?_append_right hi] at hp
        obtain ⟨hi0, hp⟩ := List.getElem?_eq_some_iff.1 hp
        simp only [List.length_cons, List.length_nil] at hi0
        have h0 : i - L.fs.length = 0 := by omega
        simp only [h0, List.getElem_cons_zero] at hp
        exact ⟨by omega, hp.symm⟩
      rcases Nat.lt_or_ge i L.fs.length with hi | hi <;> rcases Nat.lt_or_ge j L.fs.length with hj | hj
      · rw [List.getElem?_append_left hi] at hp
        rw [List.getElem?_append_left hj] at hq
        exact h.apart i j p q hp hq hij
      · obtain ⟨_, rfl⟩ := new j q hq hj
        rw [List.getElem?_append_left hi] at hp
        refine ⟨fun e => hn p (List.mem_of_getElem? hp) e.symm, ?_⟩
        cases hpo : p.2.ownBlock with
        | none => exact .inl rfl
        | some x => exact .inr (by simp [Value.ownBlock])
      · obtain ⟨_, rfl⟩ := new i p hp hi
        rw [List.getElem?_append_left hj] at hq
        exact ⟨hn q (List.mem_of_getElem? hq), .inl rfl⟩
      · obtain ⟨e1, _⟩ := new i p hp hi
        obtain ⟨e2, _⟩ := new j q hq hj
        omega
  exact (hB.far hbox 1 vf').shut h.ge (blk_put hbox 1 vf' rfl) ⟨rfl, rfl, rfl, rfl⟩
theorem grown_refl (w : World) (r : Option Nat) : w.grownBy w r := ⟨rfl, rfl, rfl, Nat.le_refl _, fun _ _ _ => rfl⟩
theorem DskL.nilMoves (h : DskL B w L b S) : DskL B (w.setCell ⟨b, 4, none⟩ (.slice none 0 0)) { L with vm := .slice none 0 0 } b { S with moves := [] } :=
  h.setMoves (ms := []) (World.ownsRow_nil w B 69 3) (grown_refl _ _)
/-- What stays is another map. -/
theorem DskL.setBase {g : Nat} {m : Names} (h : DskL B w L b S) (hm : MapAt w g m) (hg : B ≤ g) (hne : L.nb ≠ g) : DskL B (w.setCell ⟨b, 3, none⟩ (.map (some g))) { L with bb := g } b { S with base := m } := by
  have hB : BodyL B w { L with bb := g } { S with base := m } := ⟨⟨h.geN.1, hg, hne⟩, h.names, hm, h.files, h.len, h.each, h.apart, h.moves⟩
  exact (hB.far h.box 3 _).shut h.ge (blk_put h.box 3 _ rfl) ⟨rfl, rfl, rfl, rfl⟩
/-- A file has turned: its block, its row of changes, and nothing else. -/
theorem DskL.setFile {i : Nat} {p : Nat × Value} {f f' : PF} {v' : Value} (h : DskL B w L b S) (hp : L.fs[i]? = some p) (hf : S.files[i]? = some f) (hF : FileAt B w' (p.1, v') f') (hu : Upto (fun k => k = p.1 ∨ p.2.ownBlock = some k) w w')
    (hv : v'.ownBlock = p.2.ownBlock ∨ v'.ownBlock = none ∨ ∃ k, v'.ownBlock = some k ∧ w.heap.size ≤ k) : DskL B w' { L with fs := L.fs.set i (p.1, v') } b { S with files := S.files.set i f' } := by
  have hF0 := h.each i p f hp hf
  have hil : i < L.fs.length := (List.getElem?_eq_some_iff.1 hp).1
  have hit : i < S.files.length := (List.getElem?_eq_some_iff.1 hf).1
  have far : ∀ k, k < w.heap.size → k ≠ p.1 → (∀ cur, w.heap[k]? ≠ some (.cells cur 71 (0, 0))) → w'.heap[k]? = w.heap[k]? := fun k hk hne hc => hu.block k hk (fun e => e.elim hne (fun e => by obtain ⟨cur, hb⟩ := row_obj hF0.row e; exact hc cur hb))
  have cell : ∀ {k : Nat} {cur : Array Value} {t : TypeId}, w.heap[k]? = some (.cells cur t (0, 0)) → t ≠ 66 → t ≠ 71 → w'.heap[k]? = w.heap[k]? := fun hk ht hc => far _ (blk_lt hk) (blk_ne hk hF0.blk ht) (fun cur e => by rw [hk] at e; injection e with e; injection e with _ e2; exact hc e2)
  have row : ∀ {e : TypeId} {size n : Nat} {v : Value} {xs : List Value}, w.ownsRow B e size v n xs → e ≠ 66 → e ≠ 71 → w'.ownsRow B e size v n xs := fun hr he hc => row_same hr (fun k hk => by obtain ⟨cur, hb⟩ := row_obj hr hk; exact cell hb he hc)
  have mp : ∀ {g : Nat} {m : Names}, MapAt w g m → MapAt w' g m := fun hm => by
    obtain ⟨es, c, hb⟩ := hm.obj
    exact hm.same (far _ (blk_lt hb) (map_ne hb hF0.blk) (fun cur e => by rw [hb] at e; injection e with e; cases e))
  have ap : ∀ (j : Nat) (q : Nat × Value), L.fs[j]? = some q → i ≠ j → Apart (p.1, v') q ∧ Apart q (p.1, v') := fun j q hq hij => by
    obtain ⟨a1, a2⟩ := h.apart i j p q hp hq hij
    have hjt : j < S.files.length := by rw [← h.len]; exact (List.getElem?_eq_some_iff.1 hq).1
    have hFq := h.each j q _ hq (List.getElem?_eq_getElem hjt)
    have key : v'.ownBlock = none ∨ v'.ownBlock ≠ q.2.ownBlock := by
      rcases hv with e | e | ⟨k, e, hk⟩
      · rw [e]; exact a2
      · exact .inl e
      · right; rw [e]; intro e2; have := (hFq.row.lt k e2.symm).2; omega
    refine ⟨⟨a1, key⟩, fun e => a1 e.symm, ?_⟩
    cases hq2 : q.2.ownBlock with
    | none => exact .inl rfl
    | some x => rcases key with e | e
                · exact .inr (by show some x ≠ v'.ownBlock; rw [e]; simp)
                · exact .inr (fun e2 => e (by rw [hq2]; exact e2.symm))
  refine ⟨h.ge, (cell h.box (by decide) (by decide)).trans h.box, h.geN, mp h.names, mp h.base, ?_, by simp [h.len], fun j q g hq hg => ?_, fun j k q r hq hr hjk => ?_, row h.moves (by decide) (by decide)⟩
  · have e : ptrs (L.fs.set i (p.1, v')) = ptrs L.fs := by
      unfold ptrs
      refine List.ext_getElem? (fun j => ?_)
      rw [List.getElem?_map, List.getElem?_map, List.getElem?_set]
      by_cases hij : i = j
      · subst hij; rw [if_pos rfl, if_pos hil, hp]; rfl
      · rw [if_neg hij]
    simp only [List.length_set]
    rw [e]
    exact row h.files (by decide) (by decide)
  · simp only [List.getElem?_set] at hq hg
    by_cases hij : i = j
    · subst hij
      rw [if_pos rfl, if_pos hil] at hq
      rw [if_pos rfl, if_pos hit] at hg
      injection hq with hq; injection hg with hg
      subst hq hg
      exact hF
    · rw [if_neg hij] at hq hg
      have hG := h.each j q g hq hg
      obtain ⟨a1, a2⟩ := h.apart j i q p hq hp (fun e => hij e.symm)
      refine ⟨hG.ge, (far _ (blk_lt hG.blk) a1 (fun cur e => by rw [hG.blk] at e; injection e with e; injection e with _ e2; exact absurd e2 (by decide))).trans hG.blk, row_same hG.row (fun k hk => ?_)⟩
      obtain ⟨cur, hb⟩ := row_obj hG.row hk
      refine hu.block k (blk_lt hb) (fun e => e.elim (fun e => blk_ne hb hF0.blk (by decide) e) (fun e => ?_))
      rcases a2 with a2 | a2
      · rw [a2] at hk; cases hk
      · exact a2 (by rw [hk, e])
  · simp only [List.getElem?_set] at hq hr
    by_cases hij : i = j
    · subst hij
      rw [if_pos rfl, if_pos hil] at hq
      rw [if_neg hjk] at hr
      injection hq with hq; subst hq
      exact (ap k r hr hjk).1
    · rw [if_neg hij] at hq
      by_cases hik : i = k
      · subst hik
        rw [if_pos rfl, if_pos hil] at hr
        injection hr with hr; subst hr
        exact (ap j q hq hij).2
      · rw [if_neg hik] at hr
        exact h.apart j k q r hq hr hjk
theorem modify_set {α : Type} {l : List α} {i : Nat} {x : α} (h : l[i]? = some x) (g : α → α) : l.modify i g = l.set i (g x) := by
  refine List.ext_getElem? (fun j => ?_)
  obtain ⟨hi, hx⟩ := List.getElem?_eq_some_iff.1 h
  rw [List.getElem?_modify, List.getElem?_set]
  by_cases hij : i = j
  · subst hij; simp [hi, hx]
  · rw [if_neg hij]
    cases l[j]? <;> simp [hij]
end
end Go.Proofs.Ytolbicncdookmaa.XDsk
