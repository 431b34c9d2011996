/- Where a disk lies in memory: its box, its two maps, its files, its rows; what stays of it while other memory turns. Conditions: none. -/
import Derived.Test.YtolbicncdookmaaDskPure
import Derived.Maps.OwnSet
import Derived.Maps.Ext
import Derived.Test.YtolbicncdookmaaXDskx0
namespace Go.Proofs.Ytolbicncdookmaa.XDsk
open Go Go.RowKit Go.Maps Go.Proofs.YtolbicncdookmaaW.PrintWords Go.Proofs.YtolbicncdookmaaW.PrintLast Go.Proofs.YtolbicncdookmaaW.PrintMore
set_option linter.unusedVariables false
set_option linter.unusedSimpArgs false
/-- Nothing outside of F has turned. -/
structure Upto (F : Nat → Prop) (w w' : World) : Prop where
  os : w'.os = w.os
  tape : w'.tape = w.tape
  output : w'.output = w.output
  size : w.heap.size ≤ w'.heap.size
  block : ∀ k, k < w.heap.size → ¬ F k → w'.heap[k]? = w.heap[k]?
section
variable {F G : Nat → Prop} {B b n : Nat} {w w' w2 : World}
theorem Upto.refl (F : Nat → Prop) (w : World) : Upto F w w := ⟨rfl, rfl, rfl, Nat.le_refl _, fun _ _ _ => rfl⟩
theorem Upto.trans (h : Upto F w w') (k : Upto G w' w2) (hs : ∀ k, G k → F k ∨ w.heap.size ≤ k) : Upto F w w2 :=
  ⟨k.os.trans h.os, k.tape.trans h.tape, k.output.trans h.output, Nat.le_trans h.size k.size, fun i hi hn => (k.block i (Nat.lt_of_lt_of_le hi h.size) (fun h2 => (hs i h2).elim hn (fun h3 => by omega))).trans (h.block i hi hn)⟩
theorem Upto.mono (h : Upto F w w') (hs : ∀ k, F k → G k) : Upto G w w' := ⟨h.os, h.tape, h.output, h.size, fun i hi hn => h.block i hi (fun hk => hn (hs i hk))⟩
theorem Upto.of_below (h : Below w.heap.size w w') (F : Nat → Prop) : Upto F w w' := ⟨h.os, h.tape, h.output, h.size, fun i hi _ => h.block i hi⟩
theorem Upto.of_grown {row : Option Nat} (h : w.grownBy w' row) (hr : ∀ k, row = some k → F k) : Upto F w w' := ⟨h.os, h.tape, h.output, h.size, fun i hi hn => h.block i hi (fun e => hn (hr i e.symm))⟩
theorem Upto.then_below (h : Upto F w w') (k : Below w'.heap.size w' w2) : Upto F w w2 := h.trans (Upto.of_below k (fun _ => False)) (fun _ hk => hk.elim)
theorem Upto.then_same (h : Upto F w w') (k : Upto F w' w2) : Upto F w w2 := h.trans k (fun _ hk => Or.inl hk)
theorem Upto.setCell (h : Upto F w w') {p : Addr} (hp : F p.block ∨ w.heap.size ≤ p.block) (u : Value) : Upto F w (w'.setCell p u) :=
  h.trans (G := fun k => k = p.block) ⟨rfl, rfl, rfl, by simp [World.setCell], fun i _ hn => Below.heap_setCell w' p u i hn⟩ (fun k hk => by rw [hk]; exact hp)
theorem Upto.alloc (h : Upto F w w') (o : Obj) : Upto F w (w'.alloc o) := h.then_below (below_alloc (Below.refl _ _) o)
theorem Upto.drew (h : Upto F w w') : Upto F w w'.drew := ⟨h.os, h.tape, h.output, h.size, h.block⟩
theorem Upto.drewN (h : Upto F w w') (m : Nat) : Upto F w (w'.drewN m) := ⟨h.os, h.tape, h.output, h.size, h.block⟩
theorem Upto.grown {row : Option Nat} (h : Upto F w w') (k : w'.grownBy w2 row) (hr : ∀ j, row = some j → F j ∨ w.heap.size ≤ j) : Upto F w w2 := h.trans (Upto.of_grown (F := fun j => row = some j) k (fun _ hk => hk)) hr
theorem Upto.below (h : Upto F w w') (hF : ∀ k, F k → B ≤ k) (hB : B ≤ w.heap.size) : Below B w w' := ⟨h.os, h.tape, h.output, h.size, fun k hk => h.block k (by omega) (fun hf => by have := hF k hf; omega)⟩
theorem Upto.far (h : Upto F w w') (hk : b < w.heap.size) (hn : ¬ F b) : w'.heap[b]? = w.heap[b]? := h.block b hk hn
end
/-! ### a map of names -/
def ent (p : ByteArray × Int) : Lit × DataW Unit := (.string p.1.data.toList, .lit (.int .i64 p.2))
def mapD (m : Names) : DataW Unit := .map (m.map ent)
theorem mapD_ins (x : ByteArray × Int) : ∀ m : Names, (insN x m).map ent = DataW.insert (ent x) (m.map ent)
  | [] => rfl
  | y :: l => by
    by_cases h : bytesBefore x.1.data.toList y.1.data.toList = true
    · have e1 : insN x (y :: l) = x :: y :: l := by rw [insN, if_pos h]
      have e2 : DataW.insert (ent x) ((y :: l).map ent) = ent x :: (y :: l).map ent := if_pos h
      rw [e1, e2]; rfl
    · have e1 : insN x (y :: l) = y :: insN x l := by rw [insN, if_neg h]
      have e2 : DataW.insert (ent x) ((y :: l).map ent) = ent y :: DataW.insert (ent x) (l.map ent) := if_neg h
      rw [e1, e2, ← mapD_ins x l]; rfl
theorem mapD_filter (s : ByteArray) (m : Names) : (delN m s).map ent = (m.map ent).filter (fun p => !p.1.sameKey (.string s.data.toList)) := by
  unfold delN
  rw [List.filter_map]
  rfl
theorem mapD_put (m : Names) (s : ByteArray) (i : Int) : (mapD m).put (.string s.data.toList) (.lit (.int .i64 i)) = mapD (putN m s i) := by
  unfold mapD putN
  rw [mapD_ins, mapD_filter]; rfl
theorem mapD_del (m : Names) (s : ByteArray) : (mapD m).del (.string s.data.toList) = mapD (delN m s) := by
  unfold mapD
  rw [mapD_filter]; rfl
theorem has_mapD (m : Names) (s : ByteArray) : Maps.has (mapD m) (.string s.data.toList) = (getN m s).isSome := by
  unfold mapD getN
  rw [Maps.has_eq, List.any_map, Option.isSome_map]
  induction m with
  | nil => rfl
  | cons y l ih =>
    rw [List.any_cons, List.find?_cons, ih]
    by_cases h : isK s y = true
    · have h' : ((fun p : Lit × DataW Unit => p.1.sameKey (.string s.data.toList)) ∘ ent) y = true := h
      rw [h', h]; rfl
    · have h0 : isK s y = false := by simpa using h
      have h' : ((fun p : Lit × DataW Unit => p.1.sameKey (.string s.data.toList)) ∘ ent) y = false := h0
      rw [h', h0]; rfl
theorem find_ent (m : Names) (s : ByteArray) : (m.map ent).find? (fun p => p.1.sameKey (.string s.data.toList)) = (m.find? (isK s)).map ent := by
  rw [List.find?_map]; rfl
theorem at_mapD (m : Names) (s : ByteArray) (z : Int) : (mapD m).atKey (.string s.data.toList) (.lit (.int .i64 z)) = .lit (.int .i64 ((getN m s).getD z)) := by
  unfold mapD DataW.atKey getN
  simp only []
  rw [find_ent]
  cases m.find? (isK s) <;> rfl
theorem length_ins (x : ByteArray × Int) : ∀ m : Names, (insN x m).length = m.length + 1
  | [] => rfl
  | y :: l => by
    by_cases h : bytesBefore x.1.data.toList y.1.data.toList = true
    · rw [insN, if_pos h]; rfl
    · rw [insN, if_neg h, List.length_cons, length_ins x l]; rfl
theorem length_put (m : Names) (s : ByteArray) (i : Int) : (putN m s i).length ≤ m.length + 1 := by
  unfold putN
  rw [length_ins]
  have := List.length_filter_le (fun p => !isK s p) m
  unfold delN; omega
theorem length_del (m : Names) (s : ByteArray) : (delN m s).length ≤ m.length := List.length_filter_le _ _
theorem size_mapD (m : Names) : Maps.size (mapD m) = m.length := by unfold mapD; rw [Maps.size_eq, List.length_map]
/-- Block g is a map of names that reads as m. -/
def MapAt (w : World) (g : Nat) (m : Names) : Prop := w.ownsMap Try.prog 9 (plainElem Try.prog 3) g m.length (mapD m)
theorem law_s : Keyed Try.prog 9 := string_keyed Try.underlying9
theorem zero_i (w : World) : (zeroValue 3).run Try.prog w = .ok (.int .i64 0) w := by kernel_rfl
theorem map_exact {w : World} {g n : Nat} {m : Names} (h : w.ownsMap Try.prog 9 (plainElem Try.prog 3) g n (mapD m)) : MapAt w g m := by
  obtain ⟨es, clock, hb, F, hs, hD⟩ := h
  refine ⟨es, clock, hb, F, ?_, hD⟩
  have := congrArg Maps.size hD
  rw [size_mapD, Maps.size_eq, Go.length_sorted, List.length_map, Array.length_toList] at this
  exact Nat.le_of_eq this.symm
theorem MapAt.same {w w' : World} {g : Nat} {m : Names} (h : MapAt w g m) (e : w'.heap[g]? = w.heap[g]?) : MapAt w' g m := by
  obtain ⟨es, clock, hb, r⟩ := h
  exact ⟨es, clock, e.trans hb, r⟩
theorem MapAt.obj {w : World} {g : Nat} {m : Names} (h : MapAt w g m) : ∃ es c, w.heap[g]? = some (.map es c) := by
  obtain ⟨es, clock, hb, r⟩ := h
  exact ⟨es, clock, hb⟩
/-! ### the disk -/
structure Lay where
  nb : Nat
  bb : Nat
  vf : Value
  vm : Value
  fs : List (Nat × Value)
def boxV (L : Lay) (S : PD) : Array Value := #[.int .i64 S.room, L.vf, .map (some L.nb), .map (some L.bb), L.vm, .int .i64 S.ops, .int .i64 S.fail, .int .i64 S.left]
def ptrs (fs : List (Nat × Value)) : List Value := fs.map fun p => .pointer (some ⟨p.1, 0, none⟩)
def chV (ch : List (ByteArray × Int)) : List Value := ch.flatMap fun p => [.string p.1, .int .i64 p.2]
def mvV (ms : List PM) : List Value := ms.flatMap fun m => [.string m.src, .string m.dst, .int .i64 m.file]
structure FileAt (B : Nat) (w : World) (p : Nat × Value) (f : PF) : Prop where
  ge : B ≤ p.1
  blk : w.heap[p.1]? = some (.cells #[.string f.base, .string f.now, p.2] 66 (0, 0))
  row : w.ownsRow B 71 2 p.2 f.ch.length (chV f.ch)
def Apart (p q : Nat × Value) : Prop := p.1 ≠ q.1 ∧ (p.2.ownBlock = none ∨ p.2.ownBlock ≠ q.2.ownBlock)
structure DskL (B : Nat) (w : World) (L : Lay) (b : Nat) (S : PD) : Prop where
  ge : B ≤ b
  box : w.heap[b]? = some (.cells (boxV L S) 59 (0, 0))
  geN : B ≤ L.nb ∧ B ≤ L.bb ∧ L.nb ≠ L.bb
  names : MapAt w L.nb S.names
  base : MapAt w L.bb S.base
  files : w.ownsRow B 60 1 L.vf L.fs.length (ptrs L.fs)
  len : L.fs.length = S.files.length
  each : ∀ (i : Nat) (p : Nat × Value) (f : PF), L.fs[i]? = some p → S.files[i]? = some f → FileAt B w p f
  apart : ∀ (i j : Nat) (p q : Nat × Value), L.fs[i]? = some p → L.fs[j]? = some q → i ≠ j → Apart p q
  moves : w.ownsRow B 69 3 L.vm S.moves.length (mvV S.moves)
def foot (L : Lay) (b k : Nat) : Prop := k = b ∨ k = L.nb ∨ k = L.bb ∨ L.vf.ownBlock = some k ∨ L.vm.ownBlock = some k ∨ ∃ p, p ∈ L.fs ∧ (k = p.1 ∨ p.2.ownBlock = some k)
theorem row_same {w w' : World} {base : Nat} {e : TypeId} {size n : Nat} {v : Value} {xs : List Value} (h : w.ownsRow base e size v n xs) (hk : ∀ k, v.ownBlock = some k → w'.heap[k]? = w.heap[k]?) : w'.ownsRow base e size v n xs := by
  refine ⟨h.1, ?_⟩
  rcases h.2 with hn | ⟨g, cap, cur, rfl, hb, hgg, rest⟩
  · exact .inl hn
  · exact .inr ⟨g, cap, cur, rfl, hb, (hk g rfl).trans hgg, rest⟩
theorem row_obj {w : World} {base : Nat} {e : TypeId} {size n : Nat} {v : Value} {xs : List Value} (h : w.ownsRow base e size v n xs) {k : Nat} (hk : v.ownBlock = some k) : ∃ cur, w.heap[k]? = some (.cells cur e (0, 0)) := by
  rcases h.2 with ⟨rfl, _⟩ | ⟨g, cap, cur, rfl, hb, hgg, rest⟩
  · simp [Value.ownBlock] at hk
  · simp [Value.ownBlock] at hk
    subst hk
    exact ⟨cur, hgg⟩
theorem FileAt.same {B : Nat} {w w' : World} {p : Nat × Value} {f : PF} (h : FileAt B w p f) (h1 : w'.heap[p.1]? = w.heap[p.1]?) (h2 : ∀ k, p.2.ownBlock = some k → w'.heap[k]? = w.heap[k]?) : FileAt B w' p f := ⟨h.ge, h1.trans h.blk, row_same h.row h2⟩
section
variable {B b : Nat} {w w' : World} {L : Lay} {S : PD}
theorem DskL.at_ (h : DskL B w L b S) {i : Nat} (hi : i < S.files.length) : ∃ p, L.fs[i]? = some p ∧ FileAt B w p S.files[i] := by
  have hl : i < L.fs.length := by rw [h.len]; exact hi
  exact ⟨L.fs[i], List.getElem?_eq_getElem hl, h.each i _ _ (List.getElem?_eq_getElem hl) (List.getElem?_eq_getElem hi)⟩
theorem DskL.of_mem (h : DskL B w L b S) {p : Nat × Value} (hp : p ∈ L.fs) : ∃ f, FileAt B w p f := by
  obtain ⟨i, hi, rfl⟩ := List.mem_iff_getElem.1 hp
  have hi' : i < S.files.length := by rw [← h.len]; exact hi
  exact ⟨S.files[i], h.each i _ _ (List.getElem?_eq_getElem hi) (List.getElem?_eq_getElem hi')⟩
theorem DskL.same (h : DskL B w L b S) (hk : ∀ k, foot L b k → w'.heap[k]? = w.heap[k]?) : DskL B w' L b S where
  ge := h.ge
  box := (hk b (.inl rfl)).trans h.box
  geN := h.geN
  names := h.names.same (hk _ (.inr (.inl rfl)))
  base := h.base.same (hk _ (.inr (.inr (.inl rfl))))
  files := row_same h.files (fun k e => hk k (.inr (.inr (.inr (.inl e)))))
  len := h.len
  each := fun i p f hp hf => (h.each i p f hp hf).same (hk _ (.inr (.inr (.inr (.inr (.inr ⟨p, List.mem_of_getElem? hp, .inl rfl⟩)))))) (fun k e => hk k (.inr (.inr (.inr (.inr (.inr ⟨p, List.mem_of_getElem? hp, .inr e⟩))))))
  apart := h.apart
  moves := row_same h.moves (fun k e => hk k (.inr (.inr (.inr (.inr (.inl e))))))
theorem DskL.foot_lt (h : DskL B w L b S) {k : Nat} (hk : foot L b k) : B ≤ k ∧ k < w.heap.size := by
  rcases hk with rfl | rfl | rfl | e | e | ⟨p, hp, rfl | e⟩
  · exact ⟨h.ge, blk_lt h.box⟩
  · obtain ⟨es, c, hb⟩ := h.names.obj; exact ⟨h.geN.1, blk_lt hb⟩
  · obtain ⟨es, c, hb⟩ := h.base.obj; exact ⟨h.geN.2.1, blk_lt hb⟩
  · exact h.files.lt k e
  · exact h.moves.lt k e
  · obtain ⟨f, hf⟩ := h.of_mem hp; exact ⟨hf.ge, blk_lt hf.blk⟩
  · obtain ⟨f, hf⟩ := h.of_mem hp; exact hf.row.lt k e
theorem DskL.upto {G : Nat → Prop} (h : DskL B w L b S) (hu : Upto G w w') (hd : ∀ k, foot L b k → ¬ G k) : DskL B w' L b S := h.same (fun k hk => hu.block k (h.foot_lt hk).2 (hd k hk))
theorem DskL.below (h : DskL B w L b S) (hu : Below w.heap.size w w') : DskL B w' L b S := h.same (fun k hk => hu.block k (h.foot_lt hk).2)
theorem DskL.alloc (h : DskL B w L b S) (o : Obj) : DskL B (w.alloc o) L b S := h.below (below_alloc (Below.refl _ _) o)
theorem DskL.drew (h : DskL B w L b S) : DskL B w.drew L b S := h.same (fun _ _ => rfl)
theorem DskL.drewN (h : DskL B w L b S) (n : Nat) : DskL B (w.drewN n) L b S := h.same (fun _ _ => rfl)
theorem DskL.below_of (h : DskL B w L b S) (hu : Upto (foot L b) w w') (hB : B ≤ w.heap.size) : Below B w w' := hu.below (fun k hk => (h.foot_lt hk).1) hB
/-- What kind of block each block of a disk is. -/
theorem DskL.kind (h : DskL B w L b S) {k : Nat} (hk : foot L b k) : (∃ es c, w.heap[k]? = some (.map es c)) ∨ ∃ cur t, w.heap[k]? = some (.cells cur t (0, 0)) ∧ (t = 59 ∨ t = 60 ∨ t = 69 ∨ t = 66 ∨ t = 71) := by
  rcases hk with rfl | rfl | rfl | e | e | ⟨p, hp, rfl | e⟩
  · exact .inr ⟨_, _, h.box, .inl rfl⟩
  · exact .inl h.names.obj
  · exact .inl h.base.obj
  · obtain ⟨cur, hb⟩ := row_obj h.files e; exact .inr ⟨cur, _, hb, .inr (.inl rfl)⟩
  · obtain ⟨cur, hb⟩ := row_obj h.moves e; exact .inr ⟨cur, _, hb, .inr (.inr (.inl rfl))⟩
  · obtain ⟨f, hf⟩ := h.of_mem hp; exact .inr ⟨_, _, hf.blk, .inr (.inr (.inr (.inl rfl)))⟩
  · obtain ⟨f, hf⟩ := h.of_mem hp; obtain ⟨cur, hb⟩ := row_obj hf.row e; exact .inr ⟨cur, _, hb, .inr (.inr (.inr (.inr rfl)))⟩
end
theorem map_ne {w : World} {g k : Nat} {es : Array MapEntry} {c : Nat} {cur : Array Value} {t : TypeId} {fr : Nat × Nat} (h : w.heap[g]? = some (.map es c)) (h' : w.heap[k]? = some (.cells cur t fr)) : g ≠ k := by
  rintro rfl
  rw [h] at h'
  injection h' with h'
  cases h'
/-- All but the box. -/
structure BodyL (B : Nat) (w : World) (L : Lay) (S : PD) : Prop where
  geN : B ≤ L.nb ∧ B ≤ L.bb ∧ L.nb ≠ L.bb
  names : MapAt w L.nb S.names
  base : MapAt w L.bb S.base
  files : w.ownsRow B 60 1 L.vf L.fs.length (ptrs L.fs)
  len : L.fs.length = S.files.length
  each : ∀ (i : Nat) (p : Nat × Value) (f : PF), L.fs[i]? = some p → S.files[i]? = some f → FileAt B w p f
  apart : ∀ (i j : Nat) (p q : Nat × Value), L.fs[i]? = some p → L.fs[j]? = some q → i ≠ j → Apart p q
  moves : w.ownsRow B 69 3 L.vm S.moves.length (mvV S.moves)
section
variable {B b : Nat} {w w' : World} {L : Lay} {S : PD}
theorem DskL.body (h : DskL B w L b S) : BodyL B w L S := ⟨h.geN, h.names, h.base, h.files, h.len, h.each, h.apart, h.moves⟩
theorem BodyL.shut {S' : PD} (h : BodyL B w L S) (hb : B ≤ b) (box : w.heap[b]? = some (.cells (boxV L S') 59 (0, 0))) (e : S'.files = S.files ∧ S'.names = S.names ∧ S'.base = S.base ∧ S'.moves = S.moves) : DskL B w L b S' := by
  obtain ⟨e1, e2, e3, e4⟩ := e
  exact ⟨hb, box, h.geN, by rw [e2]; exact h.names, by rw [e3]; exact h.base, h.files, by rw [e1]; exact h.len, by rw [e1]; exact h.each, h.apart, by rw [e4]; exact h.moves⟩
/-- A store into a block of the box's type touches nothing of the body. -/
theorem BodyL.far (h : BodyL B w L S) {g : Nat} {cs : Array Value} (hg : w.heap[g]? = some (.cells cs 59 (0, 0))) (i : Nat) (u : Value) : BodyL B (w.setCell ⟨g, i, none⟩ u) L S := by
  have far : ∀ k, k ≠ g → (w.setCell ⟨g, i, none⟩ u).heap[k]? = w.heap[k]? := fun k hk => Below.heap_setCell w ⟨g, i, none⟩ u k hk
  have cell : ∀ {k : Nat} {cur : Array Value} {t : TypeId}, w.heap[k]? = some (.cells cur t (0, 0)) → t ≠ 59 → k ≠ g := fun hk ht => blk_ne hk hg ht
  have row : ∀ {e : TypeId} {size n : Nat} {v : Value} {xs : List Value}, w.ownsRow B e size v n xs → e ≠ 59 → (w.setCell ⟨g, i, none⟩ u).ownsRow B e size v n xs := fun hr he => row_same hr (fun k hk => by obtain ⟨cur, hb⟩ := row_obj hr hk; exact far k (cell hb he))
  refine ⟨h.geN, ?_, ?_, row h.files (by decide), h.len, fun j p f hp hf => ?_, h.apart, row h.moves (by decide)⟩
  · obtain ⟨es, c, hb⟩ := h.names.obj; exact h.names.same (far _ (map_ne hb hg))
  · obtain ⟨es, c, hb⟩ := h.base.obj; exact h.base.same (far _ (map_ne hb hg))
  · have hF := h.each j p f hp hf
    exact ⟨hF.ge, (far _ (cell hF.blk (by decide))).trans hF.blk, row hF.row (by decide)⟩
/-- A number in the box is stored anew. -/
theorem DskL.setBox {S' : PD} (h : DskL B w L b S) (i : Nat) (u : Value) (e : (boxV L S).setIfInBounds i u = boxV L S') (e' : S'.files = S.files ∧ S'.names = S.names ∧ S'.base = S.base ∧ S'.moves = S.moves) : DskL B (w.setCell ⟨b, i, none⟩ u) L b S' :=
  (h.body.far h.box i u).shut h.ge (blk_put h.box i u e) e'
theorem DskL.cells (h : DskL B w L b S) : w.cell? ⟨b, 0, none⟩ = some (.int .i64 S.room) ∧ w.cell? ⟨b, 1, none⟩ = some L.vf ∧ w.cell? ⟨b, 2, none⟩ = some (.map (some L.nb)) ∧ w.cell? ⟨b, 3, none⟩ = some (.map (some L.bb)) ∧ w.cell? ⟨b, 4, none⟩ = some L.vm ∧ w.cell? ⟨b, 5, none⟩ = some (.int .i64 S.ops) ∧ w.cell? ⟨b, 6, none⟩ = some (.int .i64 S.fail) ∧ w.cell? ⟨b, 7, none⟩ = some (.int .i64 S.left) ∧ ∀ j, w.frozen? ⟨b, j, none⟩ = false :=
  ⟨(blk_cell h.box 0).trans rfl, (blk_cell h.box 1).trans rfl, (blk_cell h.box 2).trans rfl, (blk_cell h.box 3).trans rfl, (blk_cell h.box 4).trans rfl, (blk_cell h.box 5).trans rfl, (blk_cell h.box 6).trans rfl, (blk_cell h.box 7).trans rfl, blk_frozen h.box⟩
end
end Go.Proofs.Ytolbicncdookmaa.XDsk
