/- SwapNames: its walk. Conditions: lengths of 64 bits. -/
import Derived.Test.YtolbicncdookmaaSwpNm

namespace Go.Proofs.Ytolbicncdookmaa.XDsk
open Go Go.RowKit Go.Maps Go.Sort Go.Shelf Go.Proofs.YtolbicncdookmaaW.PrintWords Go.Proofs.YtolbicncdookmaaW.PrintLast Go.Proofs.YtolbicncdookmaaW.PrintMore Go.Proofs.Ytolbicncdookmaa.Num
set_option linter.unusedVariables false
set_option linter.unusedSimpArgs false
def postroomlaw8_SwapNames.Pure : Prop := True
variable {w0 W W' : World} {b c i : Nat} {S S' : PD} {name s : ByteArray} {Ts : List Thing}
theorem tilde_bt (s : ByteArray) (h1 : 1 ≤ s.size) : tildeB s = decide (bt s ((s.size : Int) - 1) = 126) := by
  obtain ⟨l, rfl⟩ := bs_list s
  rw [bs_size] at h1 ⊢
  have e : ((l.length : Int) - 1) = ((l.length - 1 : Nat) : Int) := by omega
  rw [e, bt_bs l (l.length - 1) (by omega), tilde_is, bs_size]
  have e2 : ((bs l).extract (l.length - 1) l.length).data.toList = [l[l.length - 1]] := by
    rw [ByteArray.data_extract, Array.toList_extract]
    show (l.toArray.toList.extract (l.length - 1) l.length) = _
    have hd : l.drop (l.length - 1) = [l[l.length - 1]] := by rw [List.drop_eq_getElem_cons (by omega), List.drop_eq_nil_of_le (by omega)]
    have e3 : l.toArray.toList = l := rfl
    rw [e3, List.extract, hd, show l.length - (l.length - 1) = 1 by omega]
    rfl
  rw [e2]
  by_cases h : l[l.length - 1] = 126
  · rw [h]; decide
  · have h2 : ¬ ((l[l.length - 1].toNat : Int) = 126) := fun e => h (by
      have : l[l.length - 1].toNat = 126 := by omega
      exact UInt8.toNat_inj.1 this)
    rw [decide_eq_false h2]
    simpa using h
theorem take_bt (s : ByteArray) (k : Nat) (hk : k < s.size) : (s.data.toList.take (k + 1)).all okC = ((s.data.toList.take k).all okC && (decide (33 ≤ bt s (k : Int)) && decide (bt s (k : Int) ≤ 126))) := by
  obtain ⟨l, rfl⟩ := bs_list s
  rw [bs_size] at hk
  rw [bt_bs l k hk]
  show (l.toArray.toList.take (k + 1)).all okC = ((l.toArray.toList.take k).all okC && _)
  have e : l.toArray.toList = l := rfl
  rw [e, List.take_succ_eq_append_getElem hk, List.all_append]
  unfold okC
  rw [List.all_cons, List.all_nil, Bool.and_true]
  generalize l[k].toNat = n
  have a1 : decide ((33 : Int) ≤ (n : Int)) = decide (33 ≤ n) := by rw [decide_eq_decide]; omega
  have a2 : decide ((n : Int) ≤ 126) = decide (n ≤ 126) := by rw [decide_eq_decide]; omega
  rw [a1, a2]
/-- The flag at the start. -/
def gZ (s : ByteArray) : Bool := decide (1 ≤ s.size) && decide (s.size < 24) && !tildeB s
theorem fits_is (s : ByteArray) : fitsB s = (gZ s && (s.data.toList.take s.size).all okC) := by
  have e : s.data.toList.take s.size = s.data.toList := List.take_of_length_le (by rw [ba_size]; exact Nat.le_refl _)
  rw [e]
  unfold fitsB gZ
  cases (s.data.toList.all okC) <;> simp
theorem sit (s : ByteArray) : (s.size = 0 ∧ gZ s = false) ∨ (24 ≤ s.size ∧ gZ s = false) ∨ ((1 ≤ s.size ∧ s.size ≤ 23) ∧ bt s ((s.size : Int) - 1) = 126 ∧ gZ s = false) ∨ ((1 ≤ s.size ∧ s.size ≤ 23) ∧ bt s ((s.size : Int) - 1) ≠ 126 ∧ gZ s = true) := by
  unfold gZ
  by_cases h0 : s.size = 0
  · left; refine ⟨h0, ?_⟩; rw [decide_eq_false (show ¬ 1 ≤ s.size by omega)]; rfl
  · by_cases h24 : 24 ≤ s.size
    · right; left; refine ⟨h24, ?_⟩; rw [decide_eq_false (show ¬ s.size < 24 by omega)]; simp
    · right; right
      rw [tilde_bt s (by omega), decide_eq_true (show 1 ≤ s.size by omega), decide_eq_true (show s.size < 24 by omega)]
      by_cases hb : bt s ((s.size : Int) - 1) = 126
      · left; refine ⟨by omega, hb, ?_⟩; rw [decide_eq_true hb]; rfl
      · right; refine ⟨by omega, hb, ?_⟩; rw [decide_eq_false hb]; rfl
def NmR (w : World) (b : Nat) (T : Thing) (s : ByteArray) (S : PD) (g : Bool) (k : Nat) (W : World) : Prop := k ≤ s.size ∧ g = (gZ s && (s.data.toList.take k).all okC) ∧ At w [T] 0 b S W
theorem NmR.step {w : World} {b : Nat} {T : Thing} {s : ByteArray} {S : PD} {g : Bool} {k : Nat} {W : World} (h : NmR w b T s S g k W) (hk : k < s.size) {g2 : Bool} (hg : g2 = (g && (decide (33 ≤ bt s (k : Int)) && decide (bt s (k : Int) ≤ 126)))) : NmR w b T s S g2 (k + 1) W := by
  obtain ⟨h1, h2, h3⟩ := h
  refine ⟨hk, ?_, h3⟩
  rw [hg, h2, take_bt s k hk, Bool.and_assoc]
/-- What the write told and left. -/
structure NmW (nm x : ByteArray) (e : Int) (S : PD) (rv : ByteArray) (re op : Int) (m : Nat) : Prop where
  good : Good 1000 S
  fo : findE S nOt = 0
  ro : readV S nOt = ⟨#[120]⟩
  fn : findE S nm = re
  rn : readV S nm = rv
  ops : S.ops = op
  len : (keysN S.names).length = m
  t : fitsB nm = true → e = 0 ∧ rv = x ∧ re = 0 ∧ op = 8 ∧ m = 2
  f : fitsB nm = false → e = 3 ∧ op = 2 ∧ m = 1
theorem nm_w (nm x : ByteArray) (hx : x.size ≤ 400) (hn : nm.size ≤ 200) (hne : nm ≠ nOt) : ∃ e S rv re op m, writeE otD nm x = e ∧ writeS otD nm x = S ∧ NmW nm x e S rv re op m := by
  obtain ⟨h1, h2⟩ := ot_write nm x hx hne
  have g := (otG.write nm x (by omega)).mono (show 10 + 18 + x.size ≤ 1000 by omega)
  cases hf : fitsB nm with
  | true =>
    obtain ⟨he, S, hS, a1, a2, a3, a4, a5, a6⟩ := h1 hf
    rw [hS] at g
    exact ⟨_, S, _, _, _, _, he, hS, g, a4, a5, a2, a3, a1, a6, fun _ => ⟨rfl, rfl, rfl, rfl, rfl⟩, (fun h => by rw [hf] at h; cases h)⟩
  | false =>
    obtain ⟨he, hS⟩ := h2 hf
    rw [hS] at g
    exact ⟨_, otD, _, _, _, _, he, hS, g, by decide, by decide, rfl, rfl, rfl, rfl, (fun h => by rw [hf] at h; cases h), fun _ => ⟨rfl, rfl, by decide⟩⟩
set_option maxHeartbeats 20000000 in
set_option maxRecDepth 100000 in
theorem postroomlaw8_SwapNames.walk (P : postroomlaw8_SwapNames.Pure) (a0 a1 : ByteArray) (w : World) (hw0 : a0.size ≤ 140737488351232) (hw1 : a1.size ≤ 140737488351232) :
    Calls Try.prog 6 #[.string a0, .string a1] w fun e w' => e = .returned (.bool true) ∧ Below w.heap.size w w' := by
  clear P
  have H1 := Lib.hid ot1
  have H2 := Lib.hid ot2
  by_cases hn : a0.size ≤ 200
  · by_cases hx : a1.size ≤ 400
    · by_cases hne : a0 = nOt
      · have hq : (a0.toList == [111, 116, 104, 101, 114]) = true := by rw [hne, toList_data]; decide
        have hq2 : a0.toList = [111, 116, 104, 101, 114] := by rw [hne, toList_data]; decide
        clear hne
        have hb1 : (200 < (a0.size : Int)) = False := eq_false (by omega)
        have hb2 : (400 < (a1.size : Int)) = False := eq_false (by omega)
        go_enter Try.func6, Try.ntmps6
        go_wp2_with (first
          | (go_at_call 29; refine (shown8_calls _).mono ?_; rintro e w1 ⟨rfl, hb1⟩; have HB1 := Lib.hid hb1; clear hb1)
          | (go_at_call 11; refine (at_new HB1.out _).mono ?_; rintro e w2 ⟨b, rfl, h2⟩; have HI := Lib.hid h2; clear h2))
        go_ret
        exact ⟨rfl, HI.out.low⟩
      · have hq : (a0.toList == [111, 116, 104, 101, 114]) = false := by
          rw [toList_data, beq_eq_false_iff_ne]
          intro e
          apply hne
          apply ByteArray.ext
          apply Array.ext'
          exact e
        have hq2 : (a0.toList = [111, 116, 104, 101, 114]) = False := eq_false (by simpa using hq)
        obtain ⟨e, S, rv, re, op, m, he, hS, hW⟩ := nm_w a0 a1 hx hn hne
        have HW := Lib.hid hW
        have HE := Lib.hid (And.intro he hS)
        have HN := Lib.hid hn
        have HX := Lib.hid hx
        have hb1 : (200 < (a0.size : Int)) = False := eq_false (by omega)
        have hb2 : (400 < (a1.size : Int)) = False := eq_false (by omega)
        clear hW he hS hne
        go_enter Try.func6, Try.ntmps6
        go_upto_region 13 with (first
          | (go_at_call 29; refine (shown8_calls _).mono ?_; rintro e w1 ⟨rfl, hb1⟩; have HB1 := Lib.hid hb1; clear hb1)
          | (go_at_call 11; refine (at_new HB1.out _).mono ?_; rintro e w2 ⟨b, rfl, h2⟩; have HI := Lib.hid h2; clear h2)
          | (go_at_call 12; have hA_ := at_create (name := nOt) HI.out (Good.new (by decide)) (by decide) (by decide); rw [H1.out] at hA_; refine hA_.mono ?_; clear hA_; rintro e w3 ⟨rfl, h3⟩; clear HI; have HI := Lib.hid h3; clear h3)
          | (go_at_call 13; have hA_ := at_append (name := nOt) (s := xX) HI.out ((Good.new (by decide)).create nOt (by decide)) (by decide) (by decide) (by decide); rw [H2.out.1, H2.out.2] at hA_; refine hA_.mono ?_; clear hA_; rintro e w4 ⟨rfl, h4⟩; clear HI; have HI := Lib.hid h4; clear h4)
          | (go_at_call 28; have hA_ := at_ops HI.out; rw [show otD.ops = 2 from rfl] at hA_; refine hA_.mono ?_; clear hA_; rintro e w2 ⟨rfl, rfl⟩)
          | (go_at_call 30; have hA_ := write_calls (nm := a0) (x := a1) HI.out otG (by have := HX.out; omega) (by have := HN.out; omega); rw [HE.out.1, HE.out.2] at hA_; (with_reducible refine hA_.mono ?_); clear hA_; rintro e w5 ⟨rfl, h5⟩; clear HI; have HI := Lib.hid h5; clear h5)
          | (go_at_call 17; first
              | (have hA_ := at_read (name := a0) HI.out HW.out.good (by decide) (by have := HN.out; omega); rw [HW.out.fn, HW.out.rn] at hA_; (with_reducible refine hA_.mono ?_); clear hA_; rintro e w2 ⟨rfl, rfl⟩)
              | (have hA_ := at_read (name := nOt) HI.out HW.out.good (by decide) (by decide); rw [HW.out.fo, HW.out.ro] at hA_; refine hA_.mono ?_; clear hA_; rintro e w2 ⟨rfl, rfl⟩)))
        have hsit := sit a0
        obtain ⟨gz, hgz⟩ : ∃ g, gZ a0 = g := ⟨_, rfl⟩
        rw [hgz] at hsit
        have HGZ := Lib.hid hgz
        clear hgz
        rcases hsit with ⟨hz, rfl⟩ | ⟨hz, rfl⟩ | ⟨⟨hz, hz2⟩, hz3, rfl⟩ | ⟨⟨hz, hz2⟩, hz3, rfl⟩
        · go_wp2
          go_loopw [13, 14] (fun v13 v14 W => ∃ (g : Bool) (k : Nat), v13 = .bool g ∧ v14 = .int .i64 (k : Int) ∧ Aside0 (NmR w b (dsk w.heap.size b (newD 1000)) a0 S g k W)) (fun _ v14 _ => a0.size - (intOf v14).toNat)
          case atStart => exact ⟨false, 0, rfl, rfl, ⟨Nat.zero_le _, by rw [HGZ.out]; rfl, HI.out⟩⟩
          case round =>
            obtain ⟨g, k, rfl, rfl, HF⟩ := hrel
            clear HI HB1
            by_cases hk : k < a0.size
            · exact absurd hk (by omega)
            · have hks : k = a0.size := by have := HF.out.1; omega
              have hgf : g = fitsB a0 := by have := HF.out.2.1; rw [hks] at this; rw [fits_is]; exact this
              have HI := Lib.hid HF.out.2.2
              clear HF hks
              cases g with
              | false =>
                obtain ⟨rfl, rfl, rfl⟩ := HW.out.f hgf.symm
                clear hgf
                go_wp2_with (first
                  | (go_at_call 28; have hA_ := at_ops HI.out; rw [HW.out.ops] at hA_; (with_reducible refine hA_.mono ?_); clear hA_; rintro e w2 ⟨rfl, rfl⟩)
                  | (go_at_call 27; have hA_ := at_list HI.out HW.out.good (by decide) HW.out.len; (with_reducible refine hA_.mono ?_); clear hA_; rintro e w2 ⟨AA, cap, rfl, h2⟩; clear HI; have HI := Lib.hid h2; clear h2))
                go_ret
                exact ⟨rfl, HI.out.low⟩
              | true =>
                obtain ⟨rfl, rfl, rfl, rfl, rfl⟩ := HW.out.t hgf.symm
                clear hgf
                go_wp2_with (first
                  | (go_at_call 28; have hA_ := at_ops HI.out; rw [HW.out.ops] at hA_; (with_reducible refine hA_.mono ?_); clear hA_; rintro e w2 ⟨rfl, rfl⟩)
                  | (go_at_call 27; have hA_ := at_list HI.out HW.out.good (by decide) HW.out.len; (with_reducible refine hA_.mono ?_); clear hA_; rintro e w2 ⟨AA, cap, rfl, h2⟩; clear HI; have HI := Lib.hid h2; clear h2))
                go_ret
                exact ⟨rfl, HI.out.low⟩
        · go_wp2
          go_loopw [13, 14] (fun v13 v14 W => ∃ (g : Bool) (k : Nat), v13 = .bool g ∧ v14 = .int .i64 (k : Int) ∧ Aside0 (NmR w b (dsk w.heap.size b (newD 1000)) a0 S g k W)) (fun _ v14 _ => a0.size - (intOf v14).toNat)
          case atStart => exact ⟨false, 0, rfl, rfl, ⟨Nat.zero_le _, by rw [HGZ.out]; rfl, HI.out⟩⟩
          case round =>
            obtain ⟨g, k, rfl, rfl, HF⟩ := hrel
            clear HI HB1
            by_cases hk : k < a0.size
            · have p5 : (0 ≤ (k : Int)) = True := eq_true (by omega)
              have q5 : ((k : Int) < (a0.size : Int)) = True := eq_true (by omega)
              have hxk : ∀ h : k < a0.size, ((a0[k]'h).toNat : Int) = bt a0 (k : Int) := by
                have e := bt_at a0 (k : Int)
                simp only [Int.toNat_natCast] at e
                exact e
              cases g with
              | false =>
                go_wp2
                go_roundw
                case rel => exact ⟨false, k + 1, rfl, by go_num, ⟨HF.out.step hk rfl⟩⟩
                case measure => first | (simp [intOf]; done) | (simp [intOf]; omega)
              | true =>
                by_cases c1 : 33 ≤ bt a0 (k : Int)
                · have c1b : decide (33 ≤ bt a0 (k : Int)) = true := decide_eq_true c1
                  by_cases c2 : bt a0 (k : Int) ≤ 126
                  · have c2b : decide (bt a0 (k : Int) ≤ 126) = true := decide_eq_true c2
                    have HS := Lib.hid (HF.out.step hk (g2 := true) (by rw [c1b, c2b]; rfl))
                    go_wp2
                    go_roundw
                    case rel => exact ⟨true, k + 1, rfl, by go_num, ⟨HS.out⟩⟩
                    case measure => first | (simp [intOf]; done) | (simp [intOf]; omega)
                  · have c2b : decide (bt a0 (k : Int) ≤ 126) = false := decide_eq_false c2
                    have HS := Lib.hid (HF.out.step hk (g2 := false) (by rw [c1b, c2b]; rfl))
                    go_wp2
                    go_roundw
                    case rel => exact ⟨false, k + 1, rfl, by go_num, ⟨HS.out⟩⟩
                    case measure => first | (simp [intOf]; done) | (simp [intOf]; omega)
                · have c1b : decide (33 ≤ bt a0 (k : Int)) = false := decide_eq_false c1
                  have HS := Lib.hid (HF.out.step hk (g2 := false) (by rw [c1b]; rfl))
                  go_wp2
                  go_roundw
                  case rel => exact ⟨false, k + 1, rfl, by go_num, ⟨HS.out⟩⟩
                  case measure => first | (simp [intOf]; done) | (simp [intOf]; omega)
            · have hks : k = a0.size := by have := HF.out.1; omega
              have hgf : g = fitsB a0 := by have := HF.out.2.1; rw [hks] at this; rw [fits_is]; exact this
              have HI := Lib.hid HF.out.2.2
              clear HF hks
              cases g with
              | false =>
                obtain ⟨rfl, rfl, rfl⟩ := HW.out.f hgf.symm
                clear hgf
                go_wp2_with (first
                  | (go_at_call 28; have hA_ := at_ops HI.out; rw [HW.out.ops] at hA_; (with_reducible refine hA_.mono ?_); clear hA_; rintro e w2 ⟨rfl, rfl⟩)
                  | (go_at_call 27; have hA_ := at_list HI.out HW.out.good (by decide) HW.out.len; (with_reducible refine hA_.mono ?_); clear hA_; rintro e w2 ⟨AA, cap, rfl, h2⟩; clear HI; have HI := Lib.hid h2; clear h2))
                go_ret
                exact ⟨rfl, HI.out.low⟩
              | true =>
                obtain ⟨rfl, rfl, rfl, rfl, rfl⟩ := HW.out.t hgf.symm
                clear hgf
                go_wp2_with (first
                  | (go_at_call 28; have hA_ := at_ops HI.out; rw [HW.out.ops] at hA_; (with_reducible refine hA_.mono ?_); clear hA_; rintro e w2 ⟨rfl, rfl⟩)
                  | (go_at_call 27; have hA_ := at_list HI.out HW.out.good (by decide) HW.out.len; (with_reducible refine hA_.mono ?_); clear hA_; rintro e w2 ⟨AA, cap, rfl, h2⟩; clear HI; have HI := Lib.hid h2; clear h2))
                go_ret
                exact ⟨rfl, HI.out.low⟩
        · have q1 : (0 ≤ (a0.size : Int) - 1) = True := eq_true (by omega)
          have q2 : ((a0.size : Int) - 1 < (a0.size : Int)) = True := eq_true (by omega)
          have q3 : (bt a0 ((a0.size : Int) - 1) != 126) = false := by simpa using hz3
          have q4 : ∀ h : a0.size - 1 < a0.size, (((a0[a0.size - 1]'h).toNat : Int) != 126) = false := fun h => by
            have e := bt_at a0 ((a0.size : Int) - 1)
            have e2 : ((a0.size : Int) - 1).toNat = a0.size - 1 := by omega
            simp only [e2] at e
            rw [e h, q3]
          clear hz3
          go_wp2
          clear q3 q4
          go_loopw [13, 14] (fun v13 v14 W => ∃ (g : Bool) (k : Nat), v13 = .bool g ∧ v14 = .int .i64 (k : Int) ∧ Aside0 (NmR w b (dsk w.heap.size b (newD 1000)) a0 S g k W)) (fun _ v14 _ => a0.size - (intOf v14).toNat)
          case atStart => exact ⟨false, 0, rfl, rfl, ⟨Nat.zero_le _, by rw [HGZ.out]; rfl, HI.out⟩⟩
          case round =>
            obtain ⟨g, k, rfl, rfl, HF⟩ := hrel
            clear HI HB1
            by_cases hk : k < a0.size
            · have p5 : (0 ≤ (k : Int)) = True := eq_true (by omega)
              have q5 : ((k : Int) < (a0.size : Int)) = True := eq_true (by omega)
              have hxk : ∀ h : k < a0.size, ((a0[k]'h).toNat : Int) = bt a0 (k : Int) := by
                have e := bt_at a0 (k : Int)
                simp only [Int.toNat_natCast] at e
                exact e
              cases g with
              | false =>
                go_wp2
                go_roundw
                case rel => exact ⟨false, k + 1, rfl, by go_num, ⟨HF.out.step hk rfl⟩⟩
                case measure => first | (simp [intOf]; done) | (simp [intOf]; omega)
              | true =>
                by_cases c1 : 33 ≤ bt a0 (k : Int)
                · have c1b : decide (33 ≤ bt a0 (k : Int)) = true := decide_eq_true c1
                  by_cases c2 : bt a0 (k : Int) ≤ 126
                  · have c2b : decide (bt a0 (k : Int) ≤ 126) = true := decide_eq_true c2
                    have HS := Lib.hid (HF.out.step hk (g2 := true) (by rw [c1b, c2b]; rfl))
                    go_wp2
                    go_roundw
                    case rel => exact ⟨true, k + 1, rfl, by go_num, ⟨HS.out⟩⟩
                    case measure => first | (simp [intOf]; done) | (simp [intOf]; omega)
                  · have c2b : decide (bt a0 (k : Int) ≤ 126) = false := decide_eq_false c2
                    have HS := Lib.hid (HF.out.step hk (g2 := false) (by rw [c1b, c2b]; rfl))
                    go_wp2
                    go_roundw
                    case rel => exact ⟨false, k + 1, rfl, by go_num, ⟨HS.out⟩⟩
                    case measure => first | (simp [intOf]; done) | (simp [intOf]; omega)
                · have c1b : decide (33 ≤ bt a0 (k : Int)) = false := decide_eq_false c1
                  have HS := Lib.hid (HF.out.step hk (g2 := false) (by rw [c1b]; rfl))
                  go_wp2
                  go_roundw
                  case rel => exact ⟨false, k + 1, rfl, by go_num, ⟨HS.out⟩⟩
                  case measure => first | (simp [intOf]; done) | (simp [intOf]; omega)
            · have hks : k = a0.size := by have := HF.out.1; omega
              have hgf : g = fitsB a0 := by have := HF.out.2.1; rw [hks] at this; rw [fits_is]; exact this
              have HI := Lib.hid HF.out.2.2
              clear HF hks
              cases g with
              | false =>
                obtain ⟨rfl, rfl, rfl⟩ := HW.out.f hgf.symm
                clear hgf
                go_wp2_with (first
                  | (go_at_call 28; have hA_ := at_ops HI.out; rw [HW.out.ops] at hA_; (with_reducible refine hA_.mono ?_); clear hA_; rintro e w2 ⟨rfl, rfl⟩)
                  | (go_at_call 27; have hA_ := at_list HI.out HW.out.good (by decide) HW.out.len; (with_reducible refine hA_.mono ?_); clear hA_; rintro e w2 ⟨AA, cap, rfl, h2⟩; clear HI; have HI := Lib.hid h2; clear h2))
                go_ret
                exact ⟨rfl, HI.out.low⟩
              | true =>
                obtain ⟨rfl, rfl, rfl, rfl, rfl⟩ := HW.out.t hgf.symm
                clear hgf
                go_wp2_with (first
                  | (go_at_call 28; have hA_ := at_ops HI.out; rw [HW.out.ops] at hA_; (with_reducible refine hA_.mono ?_); clear hA_; rintro e w2 ⟨rfl, rfl⟩)
                  | (go_at_call 27; have hA_ := at_list HI.out HW.out.good (by decide) HW.out.len; (with_reducible refine hA_.mono ?_); clear hA_; rintro e w2 ⟨AA, cap, rfl, h2⟩; clear HI; have HI := Lib.hid h2; clear h2))
                go_ret
                exact ⟨rfl, HI.out.low⟩
        · have q1 : (0 ≤ (a0.size : Int) - 1) = True := eq_true (by omega)
          have q2 : ((a0.size : Int) - 1 < (a0.size : Int)) = True := eq_true (by omega)
          have q3 : (bt a0 ((a0.size : Int) - 1) != 126) = true := by simpa using hz3
          have q4 : ∀ h : a0.size - 1 < a0.size, (((a0[a0.size - 1]'h).toNat : Int) != 126) = true := fun h => by
            have e := bt_at a0 ((a0.size : Int) - 1)
            have e2 : ((a0.size : Int) - 1).toNat = a0.size - 1 := by omega
            simp only [e2] at e
            rw [e h, q3]
          clear hz3
          go_wp2
          clear q3 q4
          go_loopw [13, 14] (fun v13 v14 W => ∃ (g : Bool) (k : Nat), v13 = .bool g ∧ v14 = .int .i64 (k : Int) ∧ Aside0 (NmR w b (dsk w.heap.size b (newD 1000)) a0 S g k W)) (fun _ v14 _ => a0.size - (intOf v14).toNat)
          case atStart => exact ⟨true, 0, rfl, rfl, ⟨Nat.zero_le _, by rw [HGZ.out]; rfl, HI.out⟩⟩
          case round =>
            obtain ⟨g, k, rfl, rfl, HF⟩ := hrel
            clear HI HB1
            by_cases hk : k < a0.size
            · have p5 : (0 ≤ (k : Int)) = True := eq_true (by omega)
              have q5 : ((k : Int) < (a0.size : Int)) = True := eq_true (by omega)
              have hxk : ∀ h : k < a0.size, ((a0[k]'h).toNat : Int) = bt a0 (k : Int) := by
                have e := bt_at a0 (k : Int)
                simp only [Int.toNat_natCast] at e
                exact e
              cases g with
              | false =>
                go_wp2
                go_roundw
                case rel => exact ⟨false, k + 1, rfl, by go_num, ⟨HF.out.step hk rfl⟩⟩
                case measure => first | (simp [intOf]; done) | (simp [intOf]; omega)
              | true =>
                by_cases c1 : 33 ≤ bt a0 (k : Int)
                · have c1b : decide (33 ≤ bt a0 (k : Int)) = true := decide_eq_true c1
                  by_cases c2 : bt a0 (k : Int) ≤ 126
                  · have c2b : decide (bt a0 (k : Int) ≤ 126) = true := decide_eq_true c2
                    have HS := Lib.hid (HF.out.step hk (g2 := true) (by rw [c1b, c2b]; rfl))
                    go_wp2
                    go_roundw
                    case rel => exact ⟨true, k + 1, rfl, by go_num, ⟨HS.out⟩⟩
                    case measure => first | (simp [intOf]; done) | (simp [intOf]; omega)
                  · have c2b : decide (bt a0 (k : Int) ≤ 126) = false := decide_eq_false c2
                    have HS := Lib.hid (HF.out.step hk (g2 := false) (by rw [c1b, c2b]; rfl))
                    go_wp2
                    go_roundw
                    case rel => exact ⟨false, k + 1, rfl, by go_num, ⟨HS.out⟩⟩
                    case measure => first | (simp [intOf]; done) | (simp [intOf]; omega)
                · have c1b : decide (33 ≤ bt a0 (k : Int)) = false := decide_eq_false c1
                  have HS := Lib.hid (HF.out.step hk (g2 := false) (by rw [c1b]; rfl))
                  go_wp2
                  go_roundw
                  case rel => exact ⟨false, k + 1, rfl, by go_num, ⟨HS.out⟩⟩
                  case measure => first | (simp [intOf]; done) | (simp [intOf]; omega)
            · have hks : k = a0.size := by have := HF.out.1; omega
              have hgf : g = fitsB a0 := by have := HF.out.2.1; rw [hks] at this; rw [fits_is]; exact this
              have HI := Lib.hid HF.out.2.2
              clear HF hks
              cases g with
              | false =>
                obtain ⟨rfl, rfl, rfl⟩ := HW.out.f hgf.symm
                clear hgf
                go_wp2_with (first
                  | (go_at_call 28; have hA_ := at_ops HI.out; rw [HW.out.ops] at hA_; (with_reducible refine hA_.mono ?_); clear hA_; rintro e w2 ⟨rfl, rfl⟩)
                  | (go_at_call 27; have hA_ := at_list HI.out HW.out.good (by decide) HW.out.len; (with_reducible refine hA_.mono ?_); clear hA_; rintro e w2 ⟨AA, cap, rfl, h2⟩; clear HI; have HI := Lib.hid h2; clear h2))
                go_ret
                exact ⟨rfl, HI.out.low⟩
              | true =>
                obtain ⟨rfl, rfl, rfl, rfl, rfl⟩ := HW.out.t hgf.symm
                clear hgf
                go_wp2_with (first
                  | (go_at_call 28; have hA_ := at_ops HI.out; rw [HW.out.ops] at hA_; (with_reducible refine hA_.mono ?_); clear hA_; rintro e w2 ⟨rfl, rfl⟩)
                  | (go_at_call 27; have hA_ := at_list HI.out HW.out.good (by decide) HW.out.len; (with_reducible refine hA_.mono ?_); clear hA_; rintro e w2 ⟨AA, cap, rfl, h2⟩; clear HI; have HI := Lib.hid h2; clear h2))
                go_ret
                exact ⟨rfl, HI.out.low⟩
    · have hb1 : (200 < (a0.size : Int)) = False := eq_false (by omega)
      have hb2 : (400 < (a1.size : Int)) = True := eq_true (by omega)
      go_enter Try.func6, Try.ntmps6
      go_wp2_with (first
        | (go_at_call 29; refine (shown8_calls _).mono ?_; rintro e w1 ⟨rfl, hb1⟩; have HB1 := Lib.hid hb1; clear hb1)
        | (go_at_call 11; refine (at_new HB1.out _).mono ?_; rintro e w2 ⟨b, rfl, h2⟩; have HI := Lib.hid h2; clear h2))
      go_ret
      exact ⟨rfl, HI.out.low⟩
  · have hb1 : (200 < (a0.size : Int)) = True := eq_true (by omega)
    go_enter Try.func6, Try.ntmps6
    go_wp2_with (first
      | (go_at_call 29; refine (shown8_calls _).mono ?_; rintro e w1 ⟨rfl, hb1⟩; have HB1 := Lib.hid hb1; clear hb1)
      | (go_at_call 11; refine (at_new HB1.out _).mono ?_; rintro e w2 ⟨b, rfl, h2⟩; have HI := Lib.hid h2; clear h2))
    go_ret
    exact ⟨rfl, HI.out.low⟩
end Go.Proofs.Ytolbicncdookmaa.XDsk
namespace Go.Proofs.Ytolbicncdookmaa
theorem Pure.SwapNames : XDsk.postroomlaw8_SwapNames.Pure := trivial
end Go.Proofs.Ytolbicncdookmaa
