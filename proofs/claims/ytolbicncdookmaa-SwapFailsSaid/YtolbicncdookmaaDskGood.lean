/- What is always true of a disk that came of operations: numbers of files are right, no two names have one, what was cut could be cut; how large it can be. Conditions: none. -/
import Derived.Test.YtolbicncdookmaaDskCrash

namespace Go.Proofs.Ytolbicncdookmaa.XDsk
open Go Go.RowKit Go.Maps Go.Sort Go.Shelf Go.Proofs.YtolbicncdookmaaW.PrintWords Go.Proofs.YtolbicncdookmaaW.PrintLast Go.Proofs.YtolbicncdookmaaW.PrintMore Go.Proofs.Ytolbicncdookmaa.Num
set_option linter.unusedVariables false
set_option linter.unusedSimpArgs false
/-! ### names -/
def Up (K : Names) : Prop := K.Pairwise (fun p q => bytesBefore p.1.data.toList q.1.data.toList = true)
theorem ins_perm (x : ByteArray × Int) : ∀ K : Names, (insN x K).Perm (x :: K)
  | [] => List.Perm.refl _
  | y :: l => by
    by_cases h : bytesBefore x.1.data.toList y.1.data.toList = true
    · rw [insN, if_pos h]
    · rw [insN, if_neg h]
      exact ((ins_perm x l).cons y).trans (List.Perm.swap x y l)
theorem mem_ins {x p : ByteArray × Int} {K : Names} : p ∈ insN x K ↔ p = x ∨ p ∈ K := by rw [(ins_perm x K).mem_iff]; simp
theorem isK_ne {s : ByteArray} {p : ByteArray × Int} : isK s p = false ↔ p.1 ≠ s := by
  constructor
  · intro h e
    rw [isK_iff.2 (by rw [e])] at h
    cases h
  · intro h
    cases e : isK s p with
    | false => rfl
    | true => exact absurd (ba_eq (isK_iff.1 e)) h
theorem mem_del {p : ByteArray × Int} {K : Names} {s : ByteArray} : p ∈ delN K s ↔ p ∈ K ∧ p.1 ≠ s := by
  unfold delN
  rw [List.mem_filter, ← isK_ne]
  simp
theorem mem_put {p : ByteArray × Int} {K : Names} {s : ByteArray} {i : Int} : p ∈ putN K s i ↔ p = (s, i) ∨ (p ∈ K ∧ p.1 ≠ s) := by
  unfold putN
  rw [mem_ins, mem_del]
theorem up_del {K : Names} (h : Up K) (s : ByteArray) : Up (delN K s) := List.Pairwise.sublist (List.filter_sublist) h
theorem up_ins {x : ByteArray × Int} : ∀ {K : Names}, Up K → (∀ p ∈ K, p.1 ≠ x.1) → Up (insN x K)
  | [], _, _ => List.pairwise_singleton _ _
  | y :: l, h, hn => by
    obtain ⟨h1, h2⟩ := List.pairwise_cons.1 h
    by_cases hb : bytesBefore x.1.data.toList y.1.data.toList = true
    · rw [insN, if_pos hb]
      refine List.pairwise_cons.2 ⟨fun q hq => ?_, h⟩
      rcases List.mem_cons.1 hq with rfl | hq
      · exact hb
      · exact WideShapes.bytes_trans _ _ _ hb (h1 q hq)
    · rw [insN, if_neg hb]
      refine List.pairwise_cons.2 ⟨fun q hq => ?_, up_ins h2 (fun p hp => hn p (List.mem_cons_of_mem _ hp))⟩
      rcases mem_ins.1 hq with rfl | hq
      · rcases WideAt.bytes_total y.1.data.toList q.1.data.toList (fun e => hn y (List.mem_cons_self) (ba_eq e)) with e | e
        · exact e
        · exact absurd e hb
      · exact h1 q hq
theorem up_put {K : Names} (h : Up K) (s : ByteArray) (i : Int) : Up (putN K s i) := up_ins (up_del h s) (fun p hp => (mem_del.1 hp).2)
theorem up_dist {K : Names} (h : Up K) : Dist K := h.imp (fun {a b} hab e => by rw [e, WideAt.bytes_irrefl] at hab; cases hab)
theorem get_iff {K : Names} (h : Dist K) {s : ByteArray} {i : Int} : getN K s = some i ↔ (s, i) ∈ K := by
  constructor
  · exact getN_mem2
  · intro hm
    unfold getN
    cases e : K.find? (isK s) with
    | none =>
      have := List.find?_eq_none.1 e (s, i) hm
      exact absurd (isK_iff.2 rfl) this
    | some q =>
      have h1 := List.find?_some e
      have h2 := List.mem_of_find?_eq_some e
      have h3 := pair_unique (f := fun p : ByteArray × Int => p.1.data.toList) h h2 hm (isK_iff.1 h1)
      rw [h3]; rfl
theorem vd_del {K : Names} (h : VDist K) (s : ByteArray) : VDist (delN K s) := List.Pairwise.sublist (List.filter_sublist) h
theorem vd_put {K : Names} (h : VDist K) (s : ByteArray) (i : Int) (hi : ∀ p ∈ K, p.1 ≠ s → p.2 ≠ i) : VDist (putN K s i) := by
  unfold VDist putN
  rw [List.Perm.pairwise_iff (fun {x y} (hxy : x.2 ≠ y.2) => fun e => hxy e.symm) (ins_perm (s, i) (delN K s))]
  refine List.pairwise_cons.2 ⟨fun q hq e => ?_, vd_del h s⟩
  obtain ⟨h1, h2⟩ := mem_del.1 hq
  exact hi q h1 h2 e.symm
/-- A row of names that is right: numbers below nf, no two alike, rising, at most c. -/
structure KOk (c nf : Nat) (K : Names) : Prop where
  idx : ∀ p ∈ K, 0 ≤ p.2 ∧ p.2 < (nf : Int)
  vd : VDist K
  up : Up K
  len : K.length ≤ c
theorem KOk.nil (c nf : Nat) : KOk c nf [] := ⟨fun p hp => by simp at hp, List.Pairwise.nil, List.Pairwise.nil, Nat.zero_le _⟩
theorem KOk.mono {c c' nf nf' : Nat} {K : Names} (h : KOk c nf K) (hc : c ≤ c') (hn : nf ≤ nf') : KOk c' nf' K := ⟨fun p hp => by have := h.idx p hp; omega, h.vd, h.up, Nat.le_trans h.len hc⟩
theorem KOk.del {c nf : Nat} {K : Names} (h : KOk c nf K) (s : ByteArray) : KOk c nf (delN K s) := ⟨fun p hp => h.idx p (mem_del.1 hp).1, vd_del h.vd s, up_del h.up s, Nat.le_trans (length_del K s) h.len⟩
theorem KOk.put {c nf : Nat} {K : Names} (h : KOk c nf K) (s : ByteArray) (i : Int) (hi : ∀ p ∈ K, p.1 ≠ s → p.2 ≠ i) (h0 : 0 ≤ i) (h1 : i < (nf : Int)) : KOk (c + 1) nf (putN K s i) :=
  ⟨fun p hp => by
    rcases mem_put.1 hp with rfl | ⟨hp, _⟩
    · exact ⟨h0, h1⟩
    · exact h.idx p hp, vd_put h.vd s i hi, up_put h.up s i, by have h1 := length_put K s i; have h2 := h.len; omega⟩
/-! ### a file -/
def chEnd : List (ByteArray × Int) → Nat → Nat
  | [], n => n
  | (t, c) :: r, n => if c = -1 then chEnd r (n + t.size) else chEnd r c.toNat
def chSum (ch : List (ByteArray × Int)) : Nat := (ch.map (fun q => q.1.size)).sum
theorem chOk_snoc : ∀ (ch : List (ByteArray × Int)) (n : Nat) (t : ByteArray) (c : Int), chOk ch n → (c = -1 ∨ (0 ≤ c ∧ c ≤ (chEnd ch n : Int))) → chOk (ch ++ [(t, c)]) n
  | [], n, t, c, _, h => by
    simp only [List.nil_append, chOk]
    by_cases e : c = -1
    · rw [if_pos e]; trivial
    · rw [if_neg e]
      rcases h with h | h
      · exact absurd h e
      · exact ⟨h, trivial⟩
  | (t', c') :: r, n, t, c, hok, h => by
    simp only [List.cons_append, chOk] at hok ⊢
    unfold chEnd at h
    by_cases e : c' = -1
    · rw [if_pos e] at hok h ⊢; exact chOk_snoc r _ t c hok h
    · rw [if_neg e] at hok h ⊢; exact ⟨hok.1, chOk_snoc r _ t c hok.2 h⟩
theorem chEnd_snoc : ∀ (ch : List (ByteArray × Int)) (n : Nat) (t : ByteArray) (c : Int), chEnd (ch ++ [(t, c)]) n = if c = -1 then chEnd ch n + t.size else c.toNat
  | [], n, t, c => by simp only [List.nil_append, chEnd]
  | (t', c') :: r, n, t, c => by
    simp only [List.cons_append, chEnd]
    by_cases e : c' = -1
    · rw [if_pos e, if_pos e]; exact chEnd_snoc r _ t c
    · rw [if_neg e, if_neg e]; exact chEnd_snoc r _ t c
/-- A file that is right, of at most c bytes. -/
structure FOk (c : Nat) (f : PF) : Prop where
  ok : chOk f.ch f.base.size
  fin : chEnd f.ch f.base.size = f.now.size
  tot : f.base.size + chSum f.ch ≤ c
  now : f.now.size ≤ c
  len : f.ch.length ≤ c
theorem chSum_snoc (ch : List (ByteArray × Int)) (t : ByteArray) (c : Int) : chSum (ch ++ [(t, c)]) = chSum ch + t.size := by unfold chSum; simp
theorem chSum_mem {ch : List (ByteArray × Int)} {q : ByteArray × Int} (h : q ∈ ch) : q.1.size ≤ chSum ch := by
  unfold chSum
  induction ch with
  | nil => simp at h
  | cons y l ih =>
    rw [List.map_cons, List.sum_cons]
    rcases List.mem_cons.1 h with rfl | h
    · omega
    · have := ih h; omega
theorem FOk.mono {c c' : Nat} {f : PF} (h : FOk c f) (hc : c ≤ c') : FOk c' f := ⟨h.ok, h.fin, Nat.le_trans h.tot hc, Nat.le_trans h.now hc, Nat.le_trans h.len hc⟩
theorem FOk.new {c : Nat} {s : ByteArray} (h : s.size ≤ c) : FOk c ⟨s, s, []⟩ := ⟨trivial, rfl, by show s.size + 0 ≤ c; omega, h, Nat.zero_le _⟩
theorem FOk.add {c : Nat} {f : PF} (h : FOk c f) (s : ByteArray) : FOk (c + 1 + s.size) (addF f s) := by
  have h1 := h.tot
  have h2 := h.now
  have h3 := h.len
  refine ⟨chOk_snoc _ _ _ _ h.ok (.inl rfl), ?_, ?_, ?_, ?_⟩
  · show chEnd (f.ch ++ [(s, -1)]) f.base.size = (f.now ++ s).size
    rw [chEnd_snoc, if_pos rfl, h.fin, ByteArray.size_append]
  · show f.base.size + chSum (f.ch ++ [(s, -1)]) ≤ _
    rw [chSum_snoc]; omega
  · show (f.now ++ s).size ≤ _
    rw [ByteArray.size_append]; omega
  · show (f.ch ++ [(s, (-1 : Int))]).length ≤ _
    rw [List.length_append]; simp; omega
theorem FOk.cut {c : Nat} {f : PF} (h : FOk c f) {n : Int} (h0 : 0 ≤ n) (hn : n ≤ (f.now.size : Int)) : FOk (c + 1) (cutF f n) := by
  have h1 := h.tot
  have h2 := h.now
  have h3 := h.len
  refine ⟨chOk_snoc _ _ _ _ h.ok (.inr ⟨h0, show n ≤ (chEnd f.ch f.base.size : Int) by rw [h.fin]; exact hn⟩), ?_, ?_, ?_, ?_⟩
  · show chEnd (f.ch ++ [(ByteArray.empty, n)]) f.base.size = (f.now.extract 0 n.toNat).size
    rw [chEnd_snoc, if_neg (by omega), ByteArray.size_extract]; omega
  · show f.base.size + chSum (f.ch ++ [(ByteArray.empty, n)]) ≤ _
    rw [chSum_snoc]; simp; omega
  · show (f.now.extract 0 n.toNat).size ≤ _
    rw [ByteArray.size_extract]; omega
  · show (f.ch ++ [(ByteArray.empty, n)]).length ≤ _
    rw [List.length_append]; simp; omega
theorem FOk.sync {c : Nat} {f : PF} (h : FOk c f) : FOk c (syncF f) := ⟨trivial, rfl, by show f.now.size + 0 ≤ c; have := h.now; omega, h.now, Nat.zero_le _⟩
theorem at_size : ∀ (ch : List (ByteArray × Int)) (m : Int) (s : ByteArray), (atL ch m s).size ≤ s.size + chSum ch
  | [], _, s => by unfold atL chSum; simp
  | (t, c) :: r, m, s => by
    have e : chSum ((t, c) :: r) = t.size + chSum r := by unfold chSum; rw [List.map_cons, List.sum_cons]
    rw [e]
    unfold atL
    by_cases h : m ≤ 0
    · rw [if_pos h]; omega
    · rw [if_neg h]
      by_cases hc : c = -1
      · rw [if_pos hc]
        have := at_size r (m - min m (t.size : Int)) (s ++ t.extract 0 (min m (t.size : Int)).toNat)
        rw [ByteArray.size_append, ByteArray.size_extract] at this
        omega
      · rw [if_neg hc]
        have := at_size r (m - 1) (s.extract 0 c.toNat)
        rw [ByteArray.size_extract] at this
        omega
/-! ### a disk -/
def Snap (S : PD) (n : Nat) : Names := (S.moves.take n).foldl (fun n m => doneN m n) S.base
structure Good (c : Nat) (S : PD) : Prop where
  room : 0 ≤ S.room ∧ S.room ≤ 9223372036854775807
  ops : 0 ≤ S.ops ∧ S.ops ≤ (c : Int)
  fail : 0 ≤ S.fail ∧ S.fail ≤ 9223372036854775807
  left : -1 ≤ S.left ∧ S.left ≤ 9223372036854775807
  nfile : S.files.length ≤ c
  nmove : S.moves.length ≤ c
  mv : ∀ m ∈ S.moves, m.src.size ≤ 1000000 ∧ m.dst.size ≤ 1000000 ∧ 0 ≤ m.file ∧ m.file ≤ (c : Int)
  files : ∀ f ∈ S.files, FOk c f
  snaps : ∀ n, n ≤ S.moves.length → KOk c S.files.length (Snap S n)
  cur : Snap S S.moves.length = S.names
theorem Good.names {c : Nat} {S : PD} (h : Good c S) : KOk c S.files.length S.names := by rw [← h.cur]; exact h.snaps _ (Nat.le_refl _)
theorem Good.base {c : Nat} {S : PD} (h : Good c S) : KOk c S.files.length S.base := h.snaps 0 (Nat.zero_le _)
theorem Good.lim {c : Nat} {S : PD} (h : Good c S) (hc : c ≤ 1000000) : Lim S :=
  ⟨h.room, by have := h.ops; omega, h.fail, h.left, Nat.le_trans h.nfile hc, Nat.le_trans h.nmove hc, Nat.le_trans h.names.len hc, h.names.idx, fun f hf => by
    have := h.files f hf
    have h1 := this.now; have h2 := this.tot; have h3 := this.len
    exact ⟨by omega, by omega, by omega⟩⟩
theorem Good.crash {c : Nat} {S : PD} (h : Good c S) (hc : c ≤ 1000000) (dir : Int) : CrashOk S dir := by
  have hk : KOk c S.files.length (keptN S dir) := h.snaps (max 0 (min dir (S.moves.length : Int))).toNat (by omega)
  exact ⟨h.room, Nat.le_trans h.base.len hc, Nat.le_trans h.nmove hc, Nat.le_trans h.nfile hc, fun m hm => by
    obtain ⟨h1, h2, h3, h4⟩ := h.mv m hm
    exact ⟨by unfold maxLen; omega, by unfold maxLen; omega, wf_of (by omega) (by omega)⟩, fun f hf => by
    have := h.files f hf
    have h1 := this.now; have h2 := this.tot; have h3 := this.len
    exact ⟨this.ok, by omega, by omega, fun q hq => by have := chSum_mem hq; omega⟩, hk.idx, hk.vd⟩
theorem Good.mono {c c' : Nat} {S : PD} (h : Good c S) (hc : c ≤ c') : Good c' S :=
  ⟨h.room, by have := h.ops; omega, h.fail, h.left, Nat.le_trans h.nfile hc, Nat.le_trans h.nmove hc, fun m hm => by have := h.mv m hm; omega, fun f hf => (h.files f hf).mono hc, fun n hn => (h.snaps n hn).mono hc (Nat.le_refl _), h.cur⟩
theorem Snap_succ (S : PD) (m : PM) (n : Nat) (hn : n ≤ S.moves.length) : Snap { S with moves := S.moves ++ [m] } n = Snap S n := by
  unfold Snap
  rw [List.take_append_of_le_length hn]
theorem Snap_last (S : PD) (m : PM) : Snap { S with moves := S.moves ++ [m] } (S.moves.length + 1) = doneN m (Snap S S.moves.length) := by
  unfold Snap
  rw [List.take_of_length_le (by simp), List.take_of_length_le (Nat.le_refl _), List.foldl_append]
  rfl
theorem Good.begin {c : Nat} {S : PD} (h : Good c S) : Good (c + 1) (beginS S) := by
  unfold beginS
  by_cases h0 : S.left = 0
  · rw [if_pos h0]; exact h.mono (Nat.le_succ c)
  · rw [if_neg h0]
    have h1 := h.mono (Nat.le_succ c)
    obtain ⟨l1, l2⟩ := h.left
    refine ⟨h.room, ?_, h.fail, ?_, h1.nfile, h1.nmove, h1.mv, h1.files, h1.snaps, h.cur⟩
    · have := h.ops; show 0 ≤ S.ops + 1 ∧ S.ops + 1 ≤ ((c + 1 : Nat) : Int); omega
    · show -1 ≤ (if S.left > 0 then S.left - 1 else S.left) ∧ (if S.left > 0 then S.left - 1 else S.left) ≤ 9223372036854775807
      by_cases h1 : S.left > 0
      · rw [if_pos h1]; omega
      · rw [if_neg h1]; exact ⟨l1, l2⟩
theorem Good.fails {c : Nat} {S : PD} (h : Good c S) : Good c (failsS S) := by
  unfold failsS
  by_cases h0 : S.fail < 1
  · rw [if_pos h0]; exact h
  · rw [if_neg h0]
    obtain ⟨l1, l2⟩ := h.fail
    exact ⟨h.room, h.ops, by show 0 ≤ S.fail - 1 ∧ S.fail - 1 ≤ 9223372036854775807; omega, h.left, h.nfile, h.nmove, h.mv, h.files, h.snaps, h.cur⟩
theorem Good.failS {c : Nat} {S : PD} (h : Good c S) {n : Int} (hn : n ≤ 9223372036854775807) : Good c (failS S n) := ⟨h.room, h.ops, by show 0 ≤ max n 0 ∧ max n 0 ≤ 9223372036854775807; omega, h.left, h.nfile, h.nmove, h.mv, h.files, h.snaps, h.cur⟩
theorem Good.stopS {c : Nat} {S : PD} (h : Good c S) {n : Int} (hn : n ≤ 9223372036854775807) : Good c (stopS S n) := ⟨h.room, h.ops, h.fail, by show -1 ≤ max n (-1) ∧ max n (-1) ≤ 9223372036854775807; omega, h.nfile, h.nmove, h.mv, h.files, h.snaps, h.cur⟩
/-- A file has turned. -/
theorem Good.setF {c c' : Nat} {S : PD} (h : Good c S) (hc : c ≤ c') (i : Int) (g : PF → PF) (hg : ∀ f, S.files[i.toNat]? = some f → FOk c' (g f)) : Good c' (setF S i g) := by
  have h1 := h.mono hc
  have hl : (Go.Proofs.Ytolbicncdookmaa.XDsk.setF S i g).files.length = S.files.length := by unfold Go.Proofs.Ytolbicncdookmaa.XDsk.setF; simp
  refine ⟨h.room, h1.ops, h.fail, h.left, by rw [hl]; exact h1.nfile, h1.nmove, h1.mv, fun f hf => ?_, fun n hn => by rw [hl]; exact h1.snaps n hn, h.cur⟩
  have hf' : f ∈ S.files.modify i.toNat g := hf
  obtain ⟨j, hj, rfl⟩ := List.mem_iff_getElem.1 hf'
  have hjs : j < S.files.length := by simpa using hj
  rw [List.getElem_modify]
  by_cases e : i.toNat = j
  · subst e
    rw [if_pos rfl]
    exact hg _ (List.getElem?_eq_getElem hjs)
  · rw [if_neg e]
    exact h1.files _ (List.getElem_mem hjs)
/-- A change of names is done. -/
theorem Good.moved {c : Nat} {S : PD} (h : Good c S) (m : PM) (h1 : m.src.size ≤ 1000000) (h2 : m.dst.size ≤ 1000000) (h3 : 0 ≤ m.file) (h4 : m.dst.data.toList ≠ [] → m.file < (S.files.length : Int)) (h4' : m.file ≤ (c : Int)) (h5 : m.dst.data.toList ≠ [] → ∀ p ∈ S.names, p.1 ≠ m.src → p.1 ≠ m.dst → p.2 ≠ m.file) : Good (c + 1) (movedS S m) := by
  have g := h.mono (Nat.le_succ c)
  have hk : KOk (c + 1) S.files.length (doneN m S.names) := by
    unfold doneN
    by_cases e : m.dst.data.toList = []
    · rw [if_pos e]; exact (h.names.del _).mono (Nat.le_succ c) (Nat.le_refl _)
    · rw [if_neg e]
      exact (h.names.del _).put _ _ (fun p hp hne => h5 e p (mem_del.1 hp).1 (mem_del.1 hp).2 hne) h3 (h4 e)
  refine ⟨h.room, g.ops, h.fail, h.left, g.nfile, ?_, fun x hx => ?_, g.files, fun n hn => ?_, ?_⟩
  · show (S.moves ++ [m]).length ≤ c + 1
    have := h.nmove
    simp; omega
  · rcases List.mem_append.1 hx with hx | hx
    · exact g.mv x hx
    · rw [List.mem_singleton] at hx
      subst hx
      exact ⟨h1, h2, h3, by omega⟩
  · have hn' : n ≤ S.moves.length + 1 := by have : n ≤ (S.moves ++ [m]).length := hn; simpa using this
    show KOk (c + 1) S.files.length (Snap { S with moves := S.moves ++ [m] } n)
    rcases Nat.lt_or_ge S.moves.length n with e | e
    · have : n = S.moves.length + 1 := by omega
      subst this
      rw [Snap_last, h.cur]
      exact hk
    · rw [Snap_succ S m n e]
      exact g.snaps n e
  · show Snap { S with moves := S.moves ++ [m] } (S.moves ++ [m]).length = doneN m S.names
    rw [List.length_append, List.length_singleton, Snap_last, h.cur]
theorem toList_nil {s : ByteArray} (h : s.toList = []) : s = ByteArray.empty := by
  rw [ByteArray.toList_eq] at h
  exact ba_eq h
theorem named_ne {s : ByteArray} (h : namedB s = true) : 1 ≤ s.size ∧ s.size ≤ 24 := by
  unfold namedB at h
  simp only [Bool.and_eq_true, decide_eq_true_eq] at h
  omega
theorem Good.create {c : Nat} {S : PD} (h : Good c S) (name : ByteArray) (hn : name.size ≤ 1000000) : Good (c + 3) (createS S name) := by
  unfold createS
  by_cases h0 : S.left = 0
  · rw [if_pos h0]; exact h.mono (by omega)
  · rw [if_neg h0]
    cases hnm : namedB name with
    | false => rw [if_pos rfl]; exact h.begin.mono (by omega)
    | true =>
      rw [if_neg (by decide)]
      cases hg : getN S.names name with
      | some i => rw [if_pos (show (some i).isSome = true from rfl)]; exact h.begin.mono (by omega)
      | none =>
        rw [if_neg (by decide)]
        have hb := h.begin
        have hl0 : S.files.length ≤ c := h.nfile
        have hS1 : Good (c + 2) { beginS S with files := S.files ++ [⟨ByteArray.empty, ByteArray.empty, []⟩] } := by
          have hb2 := hb.mono (show c + 1 ≤ c + 2 by omega)
          refine ⟨hb2.room, hb2.ops, hb2.fail, hb2.left, by simp; omega, hb2.nmove, hb2.mv, fun f hf => ?_, fun n hn => ?_, hb2.cur⟩
          · rcases List.mem_append.1 hf with hf | hf
            · exact hb2.files f (by rw [(begin_same S).2.1]; exact hf)
            · rw [List.mem_singleton] at hf
              subst hf
              exact FOk.new (by show ByteArray.empty.size ≤ c + 2; simp)
          · have := (hb2.snaps n hn).mono (Nat.le_refl (c + 2)) (nf' := (S.files ++ [(⟨ByteArray.empty, ByteArray.empty, []⟩ : PF)]).length) (by rw [(begin_same S).2.1]; simp)
            exact this
        exact hS1.moved _ (by show ByteArray.empty.size ≤ 1000000; simp) hn (by show (0 : Int) ≤ (S.files.length : Int); omega) (fun _ => by show (S.files.length : Int) < ((S.files ++ [(⟨ByteArray.empty, ByteArray.empty, []⟩ : PF)]).length : Int); simp; omega) (by show (S.files.length : Int) ≤ ((c + 2 : Nat) : Int); omega) (fun _ p hp _ _ => by
            have hp' : p ∈ S.names := by rw [← (begin_same S).1]; exact hp
            have := (h.names.idx p hp').2
            show p.2 ≠ (S.files.length : Int)
            omega)
theorem Good.numN {c : Nat} {S : PD} (h : Good c S) {name : ByteArray} (h0 : findE S name = 0) : (name, Go.Proofs.Ytolbicncdookmaa.XDsk.numN S name) ∈ S.names ∧ 0 ≤ Go.Proofs.Ytolbicncdookmaa.XDsk.numN S name ∧ Go.Proofs.Ytolbicncdookmaa.XDsk.numN S name < (S.files.length : Int) := by
  obtain ⟨_, i, hi⟩ := find_zero h0
  have en : Go.Proofs.Ytolbicncdookmaa.XDsk.numN S name = i := by unfold Go.Proofs.Ytolbicncdookmaa.XDsk.numN; rw [hi]; rfl
  rw [en]
  have hm := getN_mem2 hi
  exact ⟨hm, h.names.idx _ hm⟩
theorem Good.append {c : Nat} {S : PD} (h : Good c S) (name s : ByteArray) : Good (c + 3 + s.size) (appendS S name s) := by
  unfold appendS
  by_cases h0 : findE S name = 0
  · rw [if_pos h0]
    by_cases hf : S.room - usedD S < (s.size : Int)
    · rw [if_pos hf]; exact h.begin.mono (by omega)
    · rw [if_neg hf]
      cases hb : failsB S with
      | true => rw [if_pos rfl]; exact h.begin.fails.mono (by omega)
      | false =>
        rw [if_neg (by decide)]
        refine h.begin.fails.setF (by omega) _ _ (fun f hf => ?_)
        rw [(fails_same _).2.1, (begin_same S).2.1] at hf
        exact ((h.files f (List.mem_of_getElem? hf)).add s).mono (by omega)
  · rw [if_neg h0]; exact h.begin.mono (by omega)
theorem Good.cut {c : Nat} {S : PD} (h : Good c S) (name : ByteArray) (n : Int) : Good (c + 3) (cutS S name n) := by
  unfold cutS
  by_cases h0 : findE S name = 0
  · rw [if_pos h0]
    by_cases hn : n < 0 ∨ ((nowOf S (Go.Proofs.Ytolbicncdookmaa.XDsk.numN S name)).size : Int) < n
    · rw [if_pos hn]; exact h.begin.mono (by omega)
    · rw [if_neg hn]
      refine h.begin.setF (by omega) _ _ (fun f hf => ?_)
      rw [(begin_same S).2.1] at hf
      have e : nowOf S (Go.Proofs.Ytolbicncdookmaa.XDsk.numN S name) = f.now := by unfold nowOf; rw [hf]
      rw [e] at hn
      exact ((h.files f (List.mem_of_getElem? hf)).cut (by omega) (by omega)).mono (by omega)
  · rw [if_neg h0]; exact h.begin.mono (by omega)
theorem Good.sync {c : Nat} {S : PD} (h : Good c S) (name : ByteArray) : Good (c + 3) (syncS S name) := by
  unfold syncS
  by_cases h0 : findE S name = 0
  · rw [if_pos h0]
    cases hb : failsB S with
    | true => rw [if_pos rfl]; exact h.begin.fails.mono (by omega)
    | false =>
      rw [if_neg (by decide)]
      refine h.begin.fails.setF (by omega) _ _ (fun f hf => ?_)
      rw [(fails_same _).2.1, (begin_same S).2.1] at hf
      exact (h.files f (List.mem_of_getElem? hf)).sync.mono (by omega)
  · rw [if_neg h0]; exact h.begin.mono (by omega)
theorem Good.rename {c : Nat} {S : PD} (h : Good c S) (src dst : ByteArray) (h1 : src.size ≤ 1000000) (h2 : dst.size ≤ 1000000) : Good (c + 3) (renameS S src dst) := by
  unfold renameS
  by_cases h0 : findE S src = 0
  · rw [if_pos h0]
    cases hn : namedB dst with
    | false => rw [if_pos rfl]; exact h.begin.mono (by omega)
    | true =>
      rw [if_neg (by decide)]
      obtain ⟨hm, hi0, hi1⟩ := h.numN h0
      have hl0 : S.files.length ≤ c := h.nfile
      refine (h.begin.moved _ h1 h2 hi0 (fun _ => by rw [(begin_same S).2.1]; exact hi1) (by show Go.Proofs.Ytolbicncdookmaa.XDsk.numN S src ≤ ((c + 1 : Nat) : Int); omega) (fun _ p hp hne _ e => ?_)).mono (by omega)
      rw [(begin_same S).1] at hp
      have := pair_unique (f := fun p : ByteArray × Int => p.2) h.names.vd hp hm e
      rw [this] at hne
      exact hne rfl
  · rw [if_neg h0]; exact h.begin.mono (by omega)
theorem Good.remove {c : Nat} {S : PD} (h : Good c S) (name : ByteArray) (h1 : name.size ≤ 1000000) : Good (c + 3) (removeS S name) := by
  unfold removeS
  by_cases h0 : findE S name = 0
  · rw [if_pos h0]
    have e0 : ByteArray.empty.data.toList = [] := rfl
    exact (h.begin.moved ⟨name, ByteArray.empty, 0⟩ h1 (by show ByteArray.empty.size ≤ 1000000; simp) (Int.le_refl 0) (fun e => absurd e0 e) (by show (0 : Int) ≤ ((c + 1 : Nat) : Int); omega) (fun e => absurd e0 e)).mono (by omega)
  · rw [if_neg h0]; exact h.begin.mono (by omega)
theorem Good.syncDir {c : Nat} {S : PD} (h : Good c S) : Good (c + 3) (syncDirS S) := by
  unfold syncDirS
  by_cases h0 : S.left = 0
  · rw [if_pos h0]; exact h.mono (by omega)
  · rw [if_neg h0]
    have hb := h.begin.mono (show c + 1 ≤ c + 3 by omega)
    refine ⟨hb.room, hb.ops, hb.fail, hb.left, hb.nfile, Nat.zero_le _, fun m hm => by simp at hm, hb.files, fun n hn => ?_, (begin_same S).1.symm⟩
    have hn0 : n = 0 := Nat.le_zero.1 hn
    subst hn0
    show KOk (c + 3) (beginS S).files.length S.names
    rw [(begin_same S).2.1]
    exact h.names.mono (by omega) (Nat.le_refl _)
theorem Good.new {room : Int} (h : room ≤ 9223372036854775807) : Good 0 (newD room) :=
  ⟨by show 0 ≤ max room 0 ∧ max room 0 ≤ 9223372036854775807; omega, by show (0 : Int) ≤ 0 ∧ (0 : Int) ≤ ((0 : Nat) : Int); decide, by show (0 : Int) ≤ 0 ∧ (0 : Int) ≤ 9223372036854775807; decide, by show (-1 : Int) ≤ -1 ∧ (-1 : Int) ≤ 9223372036854775807; decide, Nat.le_refl 0, Nat.le_refl 0, (fun m hm => by cases hm), (fun f hf => by cases hf), fun n hn => by
    have : Snap (newD room) n = [] := by unfold Snap newD; simp
    rw [this]; exact KOk.nil _ _, by unfold Snap newD; simp⟩
/-! ### what is left when the power went -/
theorem step_good {c : Nat} {S : PD} (hc : ∀ i, (atF (fileOf S i) 0).size ≤ c ∨ True) (hf : ∀ i m, (atF (fileOf S i) m).size ≤ c) (ks : List Int) (K : Names) : ∀ (xs : List Int) (o : PD), (∀ f ∈ o.files, FOk c f) → KOk o.files.length o.files.length o.names → (xs.Pairwise (fun a b => nameOf K a ≠ nameOf K b) ∨ True) →
    (∀ f ∈ (xs.foldl (crashStep S ks K) o).files, FOk c f) ∧ KOk (xs.foldl (crashStep S ks K) o).files.length (xs.foldl (crashStep S ks K) o).files.length (xs.foldl (crashStep S ks K) o).names
  | [], o, h1, h2, _ => ⟨h1, h2⟩
  | x :: r, o, h1, h2, _ => by
    refine step_good hc hf ks K r (crashStep S ks K o x) (fun f hf2 => ?_) ?_ (.inr trivial)
    · rcases List.mem_append.1 hf2 with hf2 | hf2
      · exact h1 f hf2
      · rw [List.mem_singleton] at hf2
        subst hf2
        exact FOk.new (hf x _)
    · have hl : (crashStep S ks K o x).files.length = o.files.length + 1 := by unfold crashStep; rw [List.length_append]; rfl
      rw [hl]
      exact (h2.mono (Nat.le_refl _) (Nat.le_succ _)).put _ _ (fun p hp _ => by have := (h2.idx p hp).2; omega) (by omega) (by omega)
theorem Good.crashD {c : Nat} {S : PD} (h : Good c S) (dir : Int) (ks : List Int) : Good c (Go.Proofs.Ytolbicncdookmaa.XDsk.crashD S dir ks) := by
  have hf : ∀ i m, (atF (fileOf S i) m).size ≤ c := fun i m => by
    have h1 := at_size (fileOf S i).ch m (fileOf S i).base
    unfold fileOf at h1 ⊢
    cases e : S.files[i.toNat]? with
    | none => rw [e] at h1; simp only [Option.getD_none] at h1 ⊢; have : (atF ⟨ByteArray.empty, ByteArray.empty, []⟩ m).size = 0 := by unfold atF atL; rfl
              omega
    | some f => rw [e] at h1; simp only [Option.getD_some] at h1 ⊢; have := (h.files f (List.mem_of_getElem? e)).tot; unfold atF; omega
  have hK := h.snaps (max 0 (min dir (S.moves.length : Int))).toNat (by omega)
  obtain ⟨g1, g2⟩ := step_good (c := c) (fun _ => .inr trivial) hf ks (keptN S dir) (numsOf (keptN S dir)) (newD S.room) ((fun f hf => by cases hf)) (KOk.nil _ _) (.inr trivial)
  have hlen : (crashFill S dir ks).files.length ≤ c := by
    have := (step_files S ks (keptN S dir) (numsOf (keptN S dir)) (newD S.room)).1
    have h3 : (numsOf (keptN S dir)).length = (keptN S dir).length := by unfold numsOf; rw [List.length_mergeSort, List.length_map]
    have h4 := hK.len
    have h5 : (Snap S (max 0 (min dir (S.moves.length : Int))).toNat) = keptN S dir := rfl
    rw [h5] at h4
    unfold crashFill
    rw [this, h3]
    show 0 + _ ≤ c
    omega
  have fixd : ∀ (xs : List Int) (o : PD), (xs.foldl (crashStep S ks (keptN S dir)) o).room = o.room ∧ (xs.foldl (crashStep S ks (keptN S dir)) o).ops = o.ops ∧ (xs.foldl (crashStep S ks (keptN S dir)) o).fail = o.fail ∧ (xs.foldl (crashStep S ks (keptN S dir)) o).left = o.left ∧ (xs.foldl (crashStep S ks (keptN S dir)) o).moves = o.moves := fun xs => by
    induction xs with
    | nil => intro o; exact ⟨rfl, rfl, rfl, rfl, rfl⟩
    | cons x r ih => intro o; exact ih (crashStep S ks (keptN S dir) o x)
  obtain ⟨e1, e2, e3, e4, e5⟩ := fixd (numsOf (keptN S dir)) (newD S.room)
  have hr := h.room
  refine ⟨?_, ?_, ?_, ?_, hlen, ?_, ?_, g1, fun n hn => ?_, ?_⟩
  · have e : (Go.Proofs.Ytolbicncdookmaa.XDsk.crashD S dir ks).room = max S.room 0 := e1
    rw [e]; omega
  · have e : (Go.Proofs.Ytolbicncdookmaa.XDsk.crashD S dir ks).ops = 0 := e2
    rw [e]; omega
  · have e : (Go.Proofs.Ytolbicncdookmaa.XDsk.crashD S dir ks).fail = 0 := e3
    rw [e]; decide
  · have e : (Go.Proofs.Ytolbicncdookmaa.XDsk.crashD S dir ks).left = -1 := e4
    rw [e]; decide
  · show (crashFill S dir ks).moves.length ≤ c; unfold crashFill; rw [e5]; exact Nat.zero_le _
  · intro m hm
    have : m ∈ (crashFill S dir ks).moves := hm
    unfold crashFill at this
    rw [e5] at this
    cases this
  · have e : Snap (Go.Proofs.Ytolbicncdookmaa.XDsk.crashD S dir ks) n = (crashFill S dir ks).names := by
      unfold Snap
      show (((crashFill S dir ks).moves.take n).foldl _ (crashFill S dir ks).names) = _
      unfold crashFill; rw [e5]; simp [newD]
    rw [e]
    exact KOk.mono (show KOk (crashFill S dir ks).files.length (crashFill S dir ks).files.length (crashFill S dir ks).names from g2) hlen (Nat.le_refl _)
  · unfold Snap
    show (((crashFill S dir ks).moves.take (crashFill S dir ks).moves.length).foldl _ (crashFill S dir ks).names) = (crashFill S dir ks).names
    unfold crashFill; rw [e5]; simp [newD]
end Go.Proofs.Ytolbicncdookmaa.XDsk
